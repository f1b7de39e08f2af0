/- Part 4 of what CodeStrict rests on: contracts of the program's functions and plain facts (the print's texts and the session's own, put together). -/
import Derived.Test.YtdacpdhpifocbaaDoorBCodeStrict2
namespace Go.Proofs.YtdacpdhpifocbaaDoor.P
open Go.RowKit Go.Proofs.YtdacpdhpifocbaaDoorW.PrintWords Go.Proofs.YtdacpdhpifocbaaDoorW.PrintLast Go.Proofs.YtdacpdhpifocbaaDoorW.PrintMore
attribute [local go_sem] max2_int min2_int max_two min_two max_three min_three max_four min_four
set_option linter.unusedVariables false
set_option linter.unusedSimpArgs false
def spec_l22Turns.l0 : Nat → List (S35) → List (S35) → Int → Option ((List (S35)))
  | 0, _, _, _ => none
  | k + 1, x0, x3, x4 => if x4 < (x0.length : Int) then (if x4 = (wrap64 ((x0.length : Int) - 1)) then (if 0 ≤ x4 then (if x3.length < 8796093022208 then (spec_l22Turns.l0 k x0 (x3 ++ [(⟨(rd_T35 x0 x4).f0, (rd_T35 x0 x4).f1⟩ : S35)]) (wrap64 (x4 + 1))) else (none)) else (none)) else (if 0 ≤ (wrap64 (x4 + 1)) then (if (wrap64 (x4 + 1)) < (x0.length : Int) then (if 0 ≤ x4 then (if 0 ≤ (wrap64 (x4 - 1)) then (if (wrap64 (x4 - 1)) < (x0.length : Int) then (if (wrap64 (((rd_T35 x0 (wrap64 (x4 + 1))).f0) - ((rd_T35 x0 x4).f0))) = (wrap64 (((rd_T35 x0 x4).f0) - ((rd_T35 x0 (wrap64 (x4 - 1))).f0))) then (if (wrap64 (((rd_T35 x0 (wrap64 (x4 + 1))).f1) - ((rd_T35 x0 x4).f1))) = (wrap64 (((rd_T35 x0 x4).f1) - ((rd_T35 x0 (wrap64 (x4 - 1))).f1))) then (spec_l22Turns.l0 k x0 x3 (wrap64 (x4 + 1))) else (if x3.length < 8796093022208 then (spec_l22Turns.l0 k x0 (x3 ++ [(⟨(rd_T35 x0 x4).f0, (rd_T35 x0 x4).f1⟩ : S35)]) (wrap64 (x4 + 1))) else (none))) else (if x3.length < 8796093022208 then (spec_l22Turns.l0 k x0 (x3 ++ [(⟨(rd_T35 x0 x4).f0, (rd_T35 x0 x4).f1⟩ : S35)]) (wrap64 (x4 + 1))) else (none))) else (none)) else (none)) else (none)) else (none)) else (none))) else (some x3)
def spec_l22Turns.f (k : Nat) (l0 : List (S35)) : Option ((List (S35))) := if 0 < (l0.length : Int) then (spec_l22Turns.l0 k l0 (([(⟨(rd_T35 l0 0).f0, (rd_T35 l0 0).f1⟩ : S35)] : List (S35))) 1) else (none)
theorem spec_l22Turns.mono_l : ∀ k, (∀ y0 y1 y2, LeO (spec_l22Turns.l0 k y0 y1 y2) (spec_l22Turns.l0 (k + 1) y0 y1 y2))
  | 0 => fun _ _ _ r h => by simp [spec_l22Turns.l0] at h
  | k + 1 => by
    have ih0 := spec_l22Turns.mono_l k
    · intro y0 y1 y2
      unfold spec_l22Turns.l0
      repeat' first
      | (with_reducible exact ih0 _ _ _)
      | (with_reducible exact LeO.refl _)
      | (with_reducible exact LeO.none _)
      | (with_reducible refine LeO.ite ?_ ?_)
      | (with_reducible refine LeO.bind ?_ (fun _ => ?_))
      | exact ih0 _ _ _
      | exact LeO.none _
      | refine LeO.ite ?_ ?_
      | refine LeO.bind ?_ (fun _ => ?_)
theorem spec_l22Turns.mono : ∀ a0 k, LeO (spec_l22Turns.f k a0) (spec_l22Turns.f (k + 1) a0) := by
  intro a0 k
  have ih0 := spec_l22Turns.mono_l k
  unfold spec_l22Turns.f
  repeat' first
      | (with_reducible exact ih0 _ _ _)
      | (with_reducible exact LeO.refl _)
      | (with_reducible exact LeO.none _)
      | (with_reducible refine LeO.ite ?_ ?_)
      | (with_reducible refine LeO.bind ?_ (fun _ => ?_))
      | exact ih0 _ _ _
      | exact LeO.none _
      | refine LeO.ite ?_ ?_
      | refine LeO.bind ?_ (fun _ => ?_)
set_option maxHeartbeats 8000000 in
set_option maxRecDepth 100000 in
theorem spec_l22Turns.calls (k : Nat) (A0 : Option Addr) (c0 : Nat) (l0 : List (S35)) (r : List (S35)) (w : World) (hr0 : Kd.C k35 w A0 l0.length l0) (hc0 : l0.length ≤ c0) (h : spec_l22Turns.f k l0 = some r) :
  Calls Tryd.prog 54 #[.slice A0 l0.length c0] w fun e w' => ∃ v0_ : Value, e = .returned (v0_) ∧ Kd.R k35 35 w' w.heap.size (fun _ => True) v0_ r ∧ Below w.heap.size w w' := by
 have hu35 := Tryd.underlying35; have HR0 := Aside0.mk hr0; have HC0 := Aside0.mk hc0; clear hr0 hc0; have HB := Aside0.mk (Below.refl w.heap.size w); have H : (if 0 < (l0.length : Int) then (spec_l22Turns.l0 k l0 (([(⟨(rd_T35 l0 0).f0, (rd_T35 l0 0).f1⟩ : S35)] : List (S35))) 1) else (none)) = some r := h; clear h
 by_cases c2 : 0 < (l0.length : Int)
 ·rw [if_pos c2] at H
  have c2b0 : decide (0 < (l0.length : Int)) = true := decide_eq_true c2; have c2b1 : decide (0 < l0.length) = true := decide_eq_true (by omega); clear c2; obtain ⟨y102, hy102⟩ : ∃ y_ : List (S35), y_ = (([(⟨(rd_T35 l0 0).f0, (rd_T35 l0 0).f1⟩ : S35)] : List (S35))) := ⟨_, rfl⟩
  replace H : (spec_l22Turns.l0 k l0 y102 1) = some r := by first | (rw [hy102]; with_reducible exact H) | (have H2_ := (Option.bind_some _ _).symm.trans H; rw [hy102]; with_reducible exact H2_) | (have H2_ := (Option.bind_some _ _).symm.trans H; with_reducible exact H2_) | with_reducible exact H | (rw [hy102]; exact H) | exact H
  have Ny102 := Aside0.mk hy102; clear hy102; have H' := Aside0.mk H; clear H; have p101 : 0 ≤ (0 : Int) := (by omega); have q101 : 0 < (l0.length : Int) := of_decide_eq_true bX; obtain ⟨ad101, e101, hx101_0, hx101_1⟩ := at_T35 HR0.out 0 p101 q101
  cases e101
  have qi101 : (0 < l0.length) = True := eq_true (by omega); (try rw [show ((0 : Int)).toNat = 0 from rfl] at hx101_0); (try rw [show 0 * 2 = 0 from rfl] at hx101_0); (try rw [Addr.add_zero'] at hx101_0); (try rw [show ((0 : Int)).toNat = 0 from rfl] at hx101_1); (try rw [show 0 * 2 = 0 from rfl] at hx101_1); (try rw [Addr.add_zero'] at hx101_1); replace p101 := eq_true p101; replace q101 := eq_true q101; go_enter Tryd.func54, Tryd.ntmps54; go_wp2_with (first | ((with_reducible refine gate_dst (N := 8) rfl ?_); refine Kd.R_lit k35 _ 35 ?hg (N := 8) ?hd (xs := ([(⟨(rd_T35 l0 0).f0, (rd_T35 l0 0).f1⟩ : S35)] : List (S35))) (inner := [.int .i64 ((rd_T35 l0 0).f0), .int .i64 ((rd_T35 l0 0).f1)]) (ok := fun _ => True) (okp := fun _ => True) ?hr ?hp (fun _ hk => hk) trivial (Below.refl _ _) (Nat.le_refl _) (by simp) ?_; (case hd => rfl); (case hg => rfl); (case hr => first | (go_simp; done) | (go_simp; rfl)); (case hp => exact (Reps.c2 (show Kd.M k35 _ _ _ (⟨(rd_T35 l0 0).f0, (rd_T35 l0 0).f1⟩ : S35) [.int .i64 ((rd_T35 l0 0).f0), .int .i64 ((rd_T35 l0 0).f1)] from (k35_mkM _ _ _ (⟨(rd_T35 l0 0).f0, (rd_T35 l0 0).f1⟩ : S35) )) (Reps.none _ _))); intro v103 w3 ho4 hb hg_ hnew_; clear hg_ hnew_; (first | rw [← Ny102.out] at ho4 | (simp only [Int.reduceToNat] at ho4; rw [← Ny102.out] at ho4)); have n0_ := Aside0.mk (Kd.R_lower ho4 (below_size (bC0 HB))); have n1_ := Aside0.mk (below_step (bC0 HB) hb); clear HB; have HO104 := n0_; have HB := n1_; clear n0_ n1_; clear hb ho4))
  repeat (go_quiet (first | ((with_reducible refine gate_dst (N := 8) rfl ?_); refine Kd.R_lit k35 _ 35 ?hg (N := 8) ?hd (xs := ([(⟨(rd_T35 l0 0).f0, (rd_T35 l0 0).f1⟩ : S35)] : List (S35))) (inner := [.int .i64 ((rd_T35 l0 0).f0), .int .i64 ((rd_T35 l0 0).f1)]) (ok := fun _ => True) (okp := fun _ => True) ?hr ?hp (fun _ hk => hk) trivial (Below.refl _ _) (Nat.le_refl _) (by simp) ?_; (case hd => rfl); (case hg => rfl); (case hr => first | (go_simp; done) | (go_simp; rfl)); (case hp => exact (Reps.c2 (show Kd.M k35 _ _ _ (⟨(rd_T35 l0 0).f0, (rd_T35 l0 0).f1⟩ : S35) [.int .i64 ((rd_T35 l0 0).f0), .int .i64 ((rd_T35 l0 0).f1)] from (k35_mkM _ _ _ (⟨(rd_T35 l0 0).f0, (rd_T35 l0 0).f1⟩ : S35) )) (Reps.none _ _))); intro v103 w3 ho4 hb hg_ hnew_; clear hg_ hnew_; (first | rw [← Ny102.out] at ho4 | (simp only [Int.reduceToNat] at ho4; rw [← Ny102.out] at ho4)); have n0_ := Aside0.mk (Kd.R_lower ho4 (below_size (bC0 HB))); have n1_ := Aside0.mk (below_step (bC0 HB) hb); clear HB; have HO104 := n0_; have HB := n1_; clear n0_ n1_; clear hb ho4)); try go_wp2_with (first | ((with_reducible refine gate_dst (N := 8) rfl ?_); refine Kd.R_lit k35 _ 35 ?hg (N := 8) ?hd (xs := ([(⟨(rd_T35 l0 0).f0, (rd_T35 l0 0).f1⟩ : S35)] : List (S35))) (inner := [.int .i64 ((rd_T35 l0 0).f0), .int .i64 ((rd_T35 l0 0).f1)]) (ok := fun _ => True) (okp := fun _ => True) ?hr ?hp (fun _ hk => hk) trivial (Below.refl _ _) (Nat.le_refl _) (by simp) ?_; (case hd => rfl); (case hg => rfl); (case hr => first | (go_simp; done) | (go_simp; rfl)); (case hp => exact (Reps.c2 (show Kd.M k35 _ _ _ (⟨(rd_T35 l0 0).f0, (rd_T35 l0 0).f1⟩ : S35) [.int .i64 ((rd_T35 l0 0).f0), .int .i64 ((rd_T35 l0 0).f1)] from (k35_mkM _ _ _ (⟨(rd_T35 l0 0).f0, (rd_T35 l0 0).f1⟩ : S35) )) (Reps.none _ _))); intro v103 w3 ho4 hb hg_ hnew_; clear hg_ hnew_; (first | rw [← Ny102.out] at ho4 | (simp only [Int.reduceToNat] at ho4; rw [← Ny102.out] at ho4)); have n0_ := Aside0.mk (Kd.R_lower ho4 (below_size (bC0 HB))); have n1_ := Aside0.mk (below_step (bC0 HB) hb); clear HB; have HO104 := n0_; have HB := n1_; clear n0_ n1_; clear hb ho4)))
  go_loopg [3, 4] k (fun kq v3 v4 w' => ∃ (x3_1 : List (S35)) (x4_1 : Int), v4 = .int .i64 x4_1 ∧ Aside0 (spec_l22Turns.l0 kq l0 x3_1 x4_1 = some r) ∧ Aside0 (kq ≤ k) ∧ Aside0 (Kd.R k35 35 w' w.heap.size (fun _ => True) v3 x3_1) ∧ Aside0 (Below w.heap.size w w'))
  case atStart => exact ⟨(y102), (1), (by first | rfl | (simp; done) | (simp [*]; done)), H', ⟨Nat.le_refl _⟩, ⟨by (with_reducible repeat (first | apply Kd.R_alloc | apply Kd.R_drewN | apply Kd.R_drew)); exact HO104.out⟩, ⟨(bC0 HB)⟩⟩
  case round =>
   clear H'
   try clear p1
   try clear q1
   try clear hx1
   try clear qi1
   try clear c2
   try clear c2b0
   try clear c2b1
   try clear p2
   try clear hx101_0
   try clear hx101_1
   try clear p101
   try clear q101
   obtain ⟨x3_1, x4_1, rfl, HA, HK1, HO_3, HB⟩ := hrel
   cases gk with
   | zero => exact absurd HA.out (by simp [spec_l22Turns.l0])
   | succ k1 =>
    have H := HA.out; clear HA; simp only [spec_l22Turns.l0] at H
    by_cases c5 : x4_1 < (l0.length : Int)
    ·rw [if_pos c5] at H
     have c5b0 : decide (x4_1 < (l0.length : Int)) = true := decide_eq_true c5; clear c5
     by_cases c6 : x4_1 = (wrap64 ((l0.length : Int) - 1))
     ·rw [if_pos c6] at H
      have c6b0 : (x4_1 == (wrap64 ((l0.length : Int) - 1))) = true := beq_iff_eq.mpr c6; have c6b1 : (x4_1 != (wrap64 ((l0.length : Int) - 1))) = false := bne_eq_false_iff_eq.mpr c6; clear c6
      by_cases c7 : 0 ≤ x4_1
      ·rw [if_pos c7] at H
       have c7b0 : decide (0 ≤ x4_1) = true := decide_eq_true c7; clear c7
       by_cases c8 : x3_1.length < 8796093022208
       ·rw [if_pos c8] at H
        have LMc8 := Aside0.mk c8; clear c8; obtain ⟨y106, hy106⟩ : ∃ y_ : List (S35), y_ = (x3_1 ++ [(⟨(rd_T35 l0 x4_1).f0, (rd_T35 l0 x4_1).f1⟩ : S35)]) := ⟨_, rfl⟩
        replace H : (spec_l22Turns.l0 k1 l0 y106 (wrap64 (x4_1 + 1))) = some r := by first | (rw [hy106]; with_reducible exact H) | (have H2_ := (Option.bind_some _ _).symm.trans H; rw [hy106]; with_reducible exact H2_) | (have H2_ := (Option.bind_some _ _).symm.trans H; with_reducible exact H2_) | with_reducible exact H | (rw [hy106]; exact H) | exact H
        have Ny106 := Aside0.mk hy106; clear hy106; have H' := Aside0.mk H; clear H; have p105 : 0 ≤ (x4_1 : Int) := of_decide_eq_true bX; have q105 : x4_1 < (l0.length : Int) := of_decide_eq_true bX; obtain ⟨ad105, e105, hx105_0, hx105_1⟩ := at_T35 HR0.out x4_1 p105 q105; obtain rfl : ad101 = ad105 := (by injection e105); replace hx105_0 := (HB.out.cell (World.block_lt_of_cell? w _ hx105_0)).trans hx105_0; replace hx105_1 := (HB.out.cell (World.block_lt_of_cell? w _ hx105_1)).trans hx105_1; replace p105 := eq_true p105; replace q105 := eq_true q105; go_wp2_with (first | ((with_reducible refine gate_builtin (b := .append) (xs := #[.tmp 74, .tmp 79]) rfl ?_); at_builtin; refine Kd.R_append k35 (w0 := w) w.heap.size rfl (.tmp 74) (.tmp 79) 25 35 (.agg #[(.int .i64 0), (.int .i64 0)]) 16 rfl Tryd.underlying25 info35 rfl (by decide) (by omega) u3 x3_1 (⟨(rd_T35 l0 x4_1).f0, (rd_T35 l0 x4_1).f1⟩ : S35) [.int .i64 ((rd_T35 l0 x4_1).f0), .int .i64 ((rd_T35 l0 x4_1).f1)] (fun _ => True) (fun _ => False) rfl rfl ?aP (fun _ hk => hk.elim) ?aF ?aO ?aB ?aS ?aL ?_; (case aP => exact k35_mkM _ _ _ (⟨(rd_T35 l0 x4_1).f0, (rd_T35 l0 x4_1).f1⟩ : S35)); (case aB => exact (bC0 HB)); (case aF => exact (fun _ _ => trivial)); (case aO => exact (bR HO_3)); (case aS => exact (below_size (bC0 HB))); (case aL => have := LMc8.out; omega); intro v107 w9 ho hb hg hat; rw [← Ny106.out] at ho; have n0_ := Aside0.mk (hb); have n1_ := Aside0.mk (ho); clear HB; clear HO_3; have HB := n0_; have HO108 := n1_; clear n0_ n1_; clear ho hb hg hat))
        repeat (go_quiet (first | ((with_reducible refine gate_builtin (b := .append) (xs := #[.tmp 74, .tmp 79]) rfl ?_); at_builtin; refine Kd.R_append k35 (w0 := w) w.heap.size rfl (.tmp 74) (.tmp 79) 25 35 (.agg #[(.int .i64 0), (.int .i64 0)]) 16 rfl Tryd.underlying25 info35 rfl (by decide) (by omega) u3 x3_1 (⟨(rd_T35 l0 x4_1).f0, (rd_T35 l0 x4_1).f1⟩ : S35) [.int .i64 ((rd_T35 l0 x4_1).f0), .int .i64 ((rd_T35 l0 x4_1).f1)] (fun _ => True) (fun _ => False) rfl rfl ?aP (fun _ hk => hk.elim) ?aF ?aO ?aB ?aS ?aL ?_; (case aP => exact k35_mkM _ _ _ (⟨(rd_T35 l0 x4_1).f0, (rd_T35 l0 x4_1).f1⟩ : S35)); (case aB => exact (bC0 HB)); (case aF => exact (fun _ _ => trivial)); (case aO => exact (bR HO_3)); (case aS => exact (below_size (bC0 HB))); (case aL => have := LMc8.out; omega); intro v107 w9 ho hb hg hat; rw [← Ny106.out] at ho; have n0_ := Aside0.mk (hb); have n1_ := Aside0.mk (ho); clear HB; clear HO_3; have HB := n0_; have HO108 := n1_; clear n0_ n1_; clear ho hb hg hat)); try go_wp2_with (first | ((with_reducible refine gate_builtin (b := .append) (xs := #[.tmp 74, .tmp 79]) rfl ?_); at_builtin; refine Kd.R_append k35 (w0 := w) w.heap.size rfl (.tmp 74) (.tmp 79) 25 35 (.agg #[(.int .i64 0), (.int .i64 0)]) 16 rfl Tryd.underlying25 info35 rfl (by decide) (by omega) u3 x3_1 (⟨(rd_T35 l0 x4_1).f0, (rd_T35 l0 x4_1).f1⟩ : S35) [.int .i64 ((rd_T35 l0 x4_1).f0), .int .i64 ((rd_T35 l0 x4_1).f1)] (fun _ => True) (fun _ => False) rfl rfl ?aP (fun _ hk => hk.elim) ?aF ?aO ?aB ?aS ?aL ?_; (case aP => exact k35_mkM _ _ _ (⟨(rd_T35 l0 x4_1).f0, (rd_T35 l0 x4_1).f1⟩ : S35)); (case aB => exact (bC0 HB)); (case aF => exact (fun _ _ => trivial)); (case aO => exact (bR HO_3)); (case aS => exact (below_size (bC0 HB))); (case aL => have := LMc8.out; omega); intro v107 w9 ho hb hg hat; rw [← Ny106.out] at ho; have n0_ := Aside0.mk (hb); have n1_ := Aside0.mk (ho); clear HB; clear HO_3; have HB := n0_; have HO108 := n1_; clear n0_ n1_; clear ho hb hg hat)))
        go_roundg k1
        case measure => have := HK1.out; omega
        case rel => exact ⟨(y106), (wrap64 (x4_1 + 1)), (by first | rfl | (simp; done) | (simp [*]; done)), H', ⟨by have := HK1.out; omega⟩, ⟨by (with_reducible repeat (first | apply Kd.R_alloc | apply Kd.R_drewN | apply Kd.R_drew)); exact HO108.out⟩, ⟨(bC0 HB)⟩⟩
       ·rw [if_neg c8] at H; exact absurd H (by simp)
      ·rw [if_neg c7] at H; exact absurd H (by simp)
     ·rw [if_neg c6] at H
      have c6b0 : (x4_1 == (wrap64 ((l0.length : Int) - 1))) = false := beq_eq_false_iff_ne.mpr c6; have c6b1 : (x4_1 != (wrap64 ((l0.length : Int) - 1))) = true := bne_iff_ne.mpr c6; obtain ⟨ji10, hji10⟩ : ∃ j_ : Int, (wrap64 (x4_1 + 1)) = j_ := ⟨_, rfl⟩
      replace H : (if 0 ≤ (ji10) then (if (ji10) < (l0.length : Int) then (if 0 ≤ x4_1 then (if 0 ≤ (wrap64 (x4_1 - 1)) then (if (wrap64 (x4_1 - 1)) < (l0.length : Int) then (if (wrap64 (((rd_T35 l0 (ji10)).f0) - ((rd_T35 l0 x4_1).f0))) = (wrap64 (((rd_T35 l0 x4_1).f0) - ((rd_T35 l0 (wrap64 (x4_1 - 1))).f0))) then (if (wrap64 (((rd_T35 l0 (ji10)).f1) - ((rd_T35 l0 x4_1).f1))) = (wrap64 (((rd_T35 l0 x4_1).f1) - ((rd_T35 l0 (wrap64 (x4_1 - 1))).f1))) then (spec_l22Turns.l0 k1 l0 x3_1 ji10) else (if x3_1.length < 8796093022208 then (spec_l22Turns.l0 k1 l0 (x3_1 ++ [(⟨(rd_T35 l0 x4_1).f0, (rd_T35 l0 x4_1).f1⟩ : S35)]) ji10) else (none))) else (if x3_1.length < 8796093022208 then (spec_l22Turns.l0 k1 l0 (x3_1 ++ [(⟨(rd_T35 l0 x4_1).f0, (rd_T35 l0 x4_1).f1⟩ : S35)]) ji10) else (none))) else (none)) else (none)) else (none)) else (none)) else (none)) = some r := by first | (rw [hji10] at H; exact H) | (simp only [hji10] at H ⊢; exact H)
      have hji10w : (IntKind.i64.wrap (x4_1 + 1)) = ji10 := (i64_w _).trans hji10
      by_cases c11 : 0 ≤ (ji10)
      ·rw [if_pos c11] at H
       have c11b0 : decide (0 ≤ (ji10)) = true := decide_eq_true c11; clear c11
       by_cases c12 : (ji10) < (l0.length : Int)
       ·rw [if_pos c12] at H
        have c12b0 : decide ((ji10) < (l0.length : Int)) = true := decide_eq_true c12; clear c12
        by_cases c13 : 0 ≤ x4_1
        ·rw [if_pos c13] at H
         have c13b0 : decide (0 ≤ x4_1) = true := decide_eq_true c13; clear c13; obtain ⟨ji14, hji14⟩ : ∃ j_ : Int, (wrap64 (x4_1 - 1)) = j_ := ⟨_, rfl⟩
         replace H : (if 0 ≤ (ji14) then (if (ji14) < (l0.length : Int) then (if (wrap64 (((rd_T35 l0 (ji10)).f0) - ((rd_T35 l0 x4_1).f0))) = (wrap64 (((rd_T35 l0 x4_1).f0) - ((rd_T35 l0 (ji14)).f0))) then (if (wrap64 (((rd_T35 l0 (ji10)).f1) - ((rd_T35 l0 x4_1).f1))) = (wrap64 (((rd_T35 l0 x4_1).f1) - ((rd_T35 l0 (ji14)).f1))) then (spec_l22Turns.l0 k1 l0 x3_1 ji10) else (if x3_1.length < 8796093022208 then (spec_l22Turns.l0 k1 l0 (x3_1 ++ [(⟨(rd_T35 l0 x4_1).f0, (rd_T35 l0 x4_1).f1⟩ : S35)]) ji10) else (none))) else (if x3_1.length < 8796093022208 then (spec_l22Turns.l0 k1 l0 (x3_1 ++ [(⟨(rd_T35 l0 x4_1).f0, (rd_T35 l0 x4_1).f1⟩ : S35)]) ji10) else (none))) else (none)) else (none)) = some r := by first | (rw [hji14] at H; exact H) | (simp only [hji14] at H ⊢; exact H)
         have hji14w : (IntKind.i64.wrap (x4_1 - 1)) = ji14 := (i64_w _).trans hji14
         by_cases c15 : 0 ≤ (ji14)
         ·rw [if_pos c15] at H
          have c15b0 : decide (0 ≤ (ji14)) = true := decide_eq_true c15; clear c15
          by_cases c16 : (ji14) < (l0.length : Int)
          ·rw [if_pos c16] at H
           have c16b0 : decide ((ji14) < (l0.length : Int)) = true := decide_eq_true c16; clear c16
           by_cases c17 : (wrap64 (((rd_T35 l0 (ji10)).f0) - ((rd_T35 l0 x4_1).f0))) = (wrap64 (((rd_T35 l0 x4_1).f0) - ((rd_T35 l0 (ji14)).f0)))
           ·rw [if_pos c17] at H
            have c17b0 : ((wrap64 (((rd_T35 l0 (ji10)).f0) - ((rd_T35 l0 x4_1).f0))) == (wrap64 (((rd_T35 l0 x4_1).f0) - ((rd_T35 l0 (ji14)).f0)))) = true := beq_iff_eq.mpr c17; have c17b1 : ((wrap64 (((rd_T35 l0 (ji10)).f0) - ((rd_T35 l0 x4_1).f0))) != (wrap64 (((rd_T35 l0 x4_1).f0) - ((rd_T35 l0 (ji14)).f0)))) = false := bne_eq_false_iff_eq.mpr c17; clear c17
            by_cases c18 : (wrap64 (((rd_T35 l0 (ji10)).f1) - ((rd_T35 l0 x4_1).f1))) = (wrap64 (((rd_T35 l0 x4_1).f1) - ((rd_T35 l0 (ji14)).f1)))
            ·rw [if_pos c18] at H
             have c18b0 : ((wrap64 (((rd_T35 l0 (ji10)).f1) - ((rd_T35 l0 x4_1).f1))) == (wrap64 (((rd_T35 l0 x4_1).f1) - ((rd_T35 l0 (ji14)).f1)))) = true := beq_iff_eq.mpr c18; have c18b1 : ((wrap64 (((rd_T35 l0 (ji10)).f1) - ((rd_T35 l0 x4_1).f1))) != (wrap64 (((rd_T35 l0 x4_1).f1) - ((rd_T35 l0 (ji14)).f1)))) = false := bne_eq_false_iff_eq.mpr c18; clear c18; have H' := Aside0.mk H; clear H; have p109 : 0 ≤ ((ji10) : Int) := of_decide_eq_true bX; have q109 : (ji10) < (l0.length : Int) := of_decide_eq_true bX; obtain ⟨ad109, e109, hx109_0, hx109_1⟩ := at_T35 HR0.out (ji10) p109 q109; obtain rfl : ad101 = ad109 := (by injection e109); replace hx109_0 := (HB.out.cell (World.block_lt_of_cell? w _ hx109_0)).trans hx109_0; replace hx109_1 := (HB.out.cell (World.block_lt_of_cell? w _ hx109_1)).trans hx109_1; replace p109 := eq_true p109; replace q109 := eq_true q109; have p110 : 0 ≤ (x4_1 : Int) := of_decide_eq_true bX; have q110 : x4_1 < (l0.length : Int) := of_decide_eq_true bX; obtain ⟨ad110, e110, hx110_0, hx110_1⟩ := at_T35 HR0.out x4_1 p110 q110; obtain rfl : ad101 = ad110 := (by injection e110); replace hx110_0 := (HB.out.cell (World.block_lt_of_cell? w _ hx110_0)).trans hx110_0; replace hx110_1 := (HB.out.cell (World.block_lt_of_cell? w _ hx110_1)).trans hx110_1; replace p110 := eq_true p110; replace q110 := eq_true q110; have p111 : 0 ≤ (x4_1 : Int) := of_decide_eq_true bX; have q111 : x4_1 < (l0.length : Int) := of_decide_eq_true bX; obtain ⟨ad111, e111, hx111_0, hx111_1⟩ := at_T35 HR0.out x4_1 p111 q111; obtain rfl : ad101 = ad111 := (by injection e111); replace hx111_0 := (HB.out.cell (World.block_lt_of_cell? w _ hx111_0)).trans hx111_0; replace hx111_1 := (HB.out.cell (World.block_lt_of_cell? w _ hx111_1)).trans hx111_1; replace p111 := eq_true p111; replace q111 := eq_true q111; have p112 : 0 ≤ ((ji14) : Int) := of_decide_eq_true bX; have q112 : (ji14) < (l0.length : Int) := of_decide_eq_true bX; obtain ⟨ad112, e112, hx112_0, hx112_1⟩ := at_T35 HR0.out (ji14) p112 q112; obtain rfl : ad101 = ad112 := (by injection e112); replace hx112_0 := (HB.out.cell (World.block_lt_of_cell? w _ hx112_0)).trans hx112_0; replace hx112_1 := (HB.out.cell (World.block_lt_of_cell? w _ hx112_1)).trans hx112_1; replace p112 := eq_true p112; replace q112 := eq_true q112; have p113 : 0 ≤ ((ji10) : Int) := of_decide_eq_true bX; have q113 : (ji10) < (l0.length : Int) := of_decide_eq_true bX; obtain ⟨ad113, e113, hx113_0, hx113_1⟩ := at_T35 HR0.out (ji10) p113 q113; obtain rfl : ad101 = ad113 := (by injection e113); replace hx113_0 := (HB.out.cell (World.block_lt_of_cell? w _ hx113_0)).trans hx113_0; replace hx113_1 := (HB.out.cell (World.block_lt_of_cell? w _ hx113_1)).trans hx113_1; replace p113 := eq_true p113; replace q113 := eq_true q113; have p114 : 0 ≤ (x4_1 : Int) := of_decide_eq_true bX; have q114 : x4_1 < (l0.length : Int) := of_decide_eq_true bX; obtain ⟨ad114, e114, hx114_0, hx114_1⟩ := at_T35 HR0.out x4_1 p114 q114; obtain rfl : ad101 = ad114 := (by injection e114); replace hx114_0 := (HB.out.cell (World.block_lt_of_cell? w _ hx114_0)).trans hx114_0; replace hx114_1 := (HB.out.cell (World.block_lt_of_cell? w _ hx114_1)).trans hx114_1; replace p114 := eq_true p114; replace q114 := eq_true q114; have p115 : 0 ≤ (x4_1 : Int) := of_decide_eq_true bX; have q115 : x4_1 < (l0.length : Int) := of_decide_eq_true bX
             obtain ⟨ad115, e115, hx115_0, hx115_1⟩ := at_T35 HR0.out x4_1 p115 q115; obtain rfl : ad101 = ad115 := (by injection e115); replace hx115_0 := (HB.out.cell (World.block_lt_of_cell? w _ hx115_0)).trans hx115_0; replace hx115_1 := (HB.out.cell (World.block_lt_of_cell? w _ hx115_1)).trans hx115_1; replace p115 := eq_true p115; replace q115 := eq_true q115; have p116 : 0 ≤ ((ji14) : Int) := of_decide_eq_true bX; have q116 : (ji14) < (l0.length : Int) := of_decide_eq_true bX; obtain ⟨ad116, e116, hx116_0, hx116_1⟩ := at_T35 HR0.out (ji14) p116 q116; obtain rfl : ad101 = ad116 := (by injection e116); replace hx116_0 := (HB.out.cell (World.block_lt_of_cell? w _ hx116_0)).trans hx116_0; replace hx116_1 := (HB.out.cell (World.block_lt_of_cell? w _ hx116_1)).trans hx116_1; replace p116 := eq_true p116; replace q116 := eq_true q116; go_wp2
             repeat (go_quiet (fail); try go_wp2)
             go_roundg k1
             case measure => have := HK1.out; omega
             case rel => exact ⟨(x3_1), (ji10), (by first | rfl | (simp; done) | (simp only [← hji10] <;> (first | rfl | simp)) | (simp [*]; done)), H', ⟨by have := HK1.out; omega⟩, ⟨by (with_reducible repeat (first | apply Kd.R_alloc | apply Kd.R_drewN | apply Kd.R_drew)); exact HO_3.out⟩, ⟨(bC0 HB)⟩⟩
            ·rw [if_neg c18] at H
             have c18b0 : ((wrap64 (((rd_T35 l0 (ji10)).f1) - ((rd_T35 l0 x4_1).f1))) == (wrap64 (((rd_T35 l0 x4_1).f1) - ((rd_T35 l0 (ji14)).f1)))) = false := beq_eq_false_iff_ne.mpr c18; have c18b1 : ((wrap64 (((rd_T35 l0 (ji10)).f1) - ((rd_T35 l0 x4_1).f1))) != (wrap64 (((rd_T35 l0 x4_1).f1) - ((rd_T35 l0 (ji14)).f1)))) = true := bne_iff_ne.mpr c18
             by_cases c19 : x3_1.length < 8796093022208
             ·rw [if_pos c19] at H
              have LMc19 := Aside0.mk c19; clear c19; obtain ⟨y118, hy118⟩ : ∃ y_ : List (S35), y_ = (x3_1 ++ [(⟨(rd_T35 l0 x4_1).f0, (rd_T35 l0 x4_1).f1⟩ : S35)]) := ⟨_, rfl⟩
              replace H : (spec_l22Turns.l0 k1 l0 y118 ji10) = some r := by first | (rw [hy118]; with_reducible exact H) | (have H2_ := (Option.bind_some _ _).symm.trans H; rw [hy118]; with_reducible exact H2_) | (have H2_ := (Option.bind_some _ _).symm.trans H; with_reducible exact H2_) | with_reducible exact H | (rw [hy118]; exact H) | exact H
              have Ny118 := Aside0.mk hy118; clear hy118; have H' := Aside0.mk H; clear H; have p109 : 0 ≤ ((ji10) : Int) := of_decide_eq_true bX; have q109 : (ji10) < (l0.length : Int) := of_decide_eq_true bX; obtain ⟨ad109, e109, hx109_0, hx109_1⟩ := at_T35 HR0.out (ji10) p109 q109; obtain rfl : ad101 = ad109 := (by injection e109); replace hx109_0 := (HB.out.cell (World.block_lt_of_cell? w _ hx109_0)).trans hx109_0; replace hx109_1 := (HB.out.cell (World.block_lt_of_cell? w _ hx109_1)).trans hx109_1; replace p109 := eq_true p109; replace q109 := eq_true q109; have p110 : 0 ≤ (x4_1 : Int) := of_decide_eq_true bX; have q110 : x4_1 < (l0.length : Int) := of_decide_eq_true bX; obtain ⟨ad110, e110, hx110_0, hx110_1⟩ := at_T35 HR0.out x4_1 p110 q110; obtain rfl : ad101 = ad110 := (by injection e110); replace hx110_0 := (HB.out.cell (World.block_lt_of_cell? w _ hx110_0)).trans hx110_0; replace hx110_1 := (HB.out.cell (World.block_lt_of_cell? w _ hx110_1)).trans hx110_1; replace p110 := eq_true p110; replace q110 := eq_true q110; have p111 : 0 ≤ (x4_1 : Int) := of_decide_eq_true bX; have q111 : x4_1 < (l0.length : Int) := of_decide_eq_true bX; obtain ⟨ad111, e111, hx111_0, hx111_1⟩ := at_T35 HR0.out x4_1 p111 q111; obtain rfl : ad101 = ad111 := (by injection e111); replace hx111_0 := (HB.out.cell (World.block_lt_of_cell? w _ hx111_0)).trans hx111_0; replace hx111_1 := (HB.out.cell (World.block_lt_of_cell? w _ hx111_1)).trans hx111_1; replace p111 := eq_true p111; replace q111 := eq_true q111; have p112 : 0 ≤ ((ji14) : Int) := of_decide_eq_true bX; have q112 : (ji14) < (l0.length : Int) := of_decide_eq_true bX; obtain ⟨ad112, e112, hx112_0, hx112_1⟩ := at_T35 HR0.out (ji14) p112 q112; obtain rfl : ad101 = ad112 := (by injection e112); replace hx112_0 := (HB.out.cell (World.block_lt_of_cell? w _ hx112_0)).trans hx112_0; replace hx112_1 := (HB.out.cell (World.block_lt_of_cell? w _ hx112_1)).trans hx112_1; replace p112 := eq_true p112; replace q112 := eq_true q112; have p113 : 0 ≤ ((ji10) : Int) := of_decide_eq_true bX; have q113 : (ji10) < (l0.length : Int) := of_decide_eq_true bX; obtain ⟨ad113, e113, hx113_0, hx113_1⟩ := at_T35 HR0.out (ji10) p113 q113; obtain rfl : ad101 = ad113 := (by injection e113); replace hx113_0 := (HB.out.cell (World.block_lt_of_cell? w _ hx113_0)).trans hx113_0; replace hx113_1 := (HB.out.cell (World.block_lt_of_cell? w _ hx113_1)).trans hx113_1; replace p113 := eq_true p113; replace q113 := eq_true q113; have p114 : 0 ≤ (x4_1 : Int) := of_decide_eq_true bX; have q114 : x4_1 < (l0.length : Int) := of_decide_eq_true bX; obtain ⟨ad114, e114, hx114_0, hx114_1⟩ := at_T35 HR0.out x4_1 p114 q114; obtain rfl : ad101 = ad114 := (by injection e114); replace hx114_0 := (HB.out.cell (World.block_lt_of_cell? w _ hx114_0)).trans hx114_0; replace hx114_1 := (HB.out.cell (World.block_lt_of_cell? w _ hx114_1)).trans hx114_1; replace p114 := eq_true p114; replace q114 := eq_true q114; have p115 : 0 ≤ (x4_1 : Int) := of_decide_eq_true bX; have q115 : x4_1 < (l0.length : Int) := of_decide_eq_true bX; obtain ⟨ad115, e115, hx115_0, hx115_1⟩ := at_T35 HR0.out x4_1 p115 q115; obtain rfl : ad101 = ad115 := (by injection e115); replace hx115_0 := (HB.out.cell (World.block_lt_of_cell? w _ hx115_0)).trans hx115_0; replace hx115_1 := (HB.out.cell (World.block_lt_of_cell? w _ hx115_1)).trans hx115_1
              replace p115 := eq_true p115; replace q115 := eq_true q115; have p116 : 0 ≤ ((ji14) : Int) := of_decide_eq_true bX; have q116 : (ji14) < (l0.length : Int) := of_decide_eq_true bX; obtain ⟨ad116, e116, hx116_0, hx116_1⟩ := at_T35 HR0.out (ji14) p116 q116; obtain rfl : ad101 = ad116 := (by injection e116); replace hx116_0 := (HB.out.cell (World.block_lt_of_cell? w _ hx116_0)).trans hx116_0; replace hx116_1 := (HB.out.cell (World.block_lt_of_cell? w _ hx116_1)).trans hx116_1; replace p116 := eq_true p116; replace q116 := eq_true q116; have p117 : 0 ≤ (x4_1 : Int) := of_decide_eq_true bX; have q117 : x4_1 < (l0.length : Int) := of_decide_eq_true bX; obtain ⟨ad117, e117, hx117_0, hx117_1⟩ := at_T35 HR0.out x4_1 p117 q117; obtain rfl : ad101 = ad117 := (by injection e117); replace hx117_0 := (HB.out.cell (World.block_lt_of_cell? w _ hx117_0)).trans hx117_0; replace hx117_1 := (HB.out.cell (World.block_lt_of_cell? w _ hx117_1)).trans hx117_1; replace p117 := eq_true p117; replace q117 := eq_true q117; go_wp2_with (first | ((with_reducible refine gate_builtin (b := .append) (xs := #[.tmp 74, .tmp 79]) rfl ?_); at_builtin; refine Kd.R_append k35 (w0 := w) w.heap.size rfl (.tmp 74) (.tmp 79) 25 35 (.agg #[(.int .i64 0), (.int .i64 0)]) 16 rfl Tryd.underlying25 info35 rfl (by decide) (by omega) u3 x3_1 (⟨(rd_T35 l0 x4_1).f0, (rd_T35 l0 x4_1).f1⟩ : S35) [.int .i64 ((rd_T35 l0 x4_1).f0), .int .i64 ((rd_T35 l0 x4_1).f1)] (fun _ => True) (fun _ => False) rfl rfl ?aP (fun _ hk => hk.elim) ?aF ?aO ?aB ?aS ?aL ?_; (case aP => exact k35_mkM _ _ _ (⟨(rd_T35 l0 x4_1).f0, (rd_T35 l0 x4_1).f1⟩ : S35)); (case aB => exact (bC0 HB)); (case aF => exact (fun _ _ => trivial)); (case aO => exact (bR HO_3)); (case aS => exact (below_size (bC0 HB))); (case aL => have := LMc19.out; omega); intro v119 w20 ho hb hg hat; rw [← Ny118.out] at ho; have n0_ := Aside0.mk (hb); have n1_ := Aside0.mk (ho); clear HB; clear HO_3; have HB := n0_; have HO120 := n1_; clear n0_ n1_; clear ho hb hg hat))
              repeat (go_quiet (first | ((with_reducible refine gate_builtin (b := .append) (xs := #[.tmp 74, .tmp 79]) rfl ?_); at_builtin; refine Kd.R_append k35 (w0 := w) w.heap.size rfl (.tmp 74) (.tmp 79) 25 35 (.agg #[(.int .i64 0), (.int .i64 0)]) 16 rfl Tryd.underlying25 info35 rfl (by decide) (by omega) u3 x3_1 (⟨(rd_T35 l0 x4_1).f0, (rd_T35 l0 x4_1).f1⟩ : S35) [.int .i64 ((rd_T35 l0 x4_1).f0), .int .i64 ((rd_T35 l0 x4_1).f1)] (fun _ => True) (fun _ => False) rfl rfl ?aP (fun _ hk => hk.elim) ?aF ?aO ?aB ?aS ?aL ?_; (case aP => exact k35_mkM _ _ _ (⟨(rd_T35 l0 x4_1).f0, (rd_T35 l0 x4_1).f1⟩ : S35)); (case aB => exact (bC0 HB)); (case aF => exact (fun _ _ => trivial)); (case aO => exact (bR HO_3)); (case aS => exact (below_size (bC0 HB))); (case aL => have := LMc19.out; omega); intro v119 w20 ho hb hg hat; rw [← Ny118.out] at ho; have n0_ := Aside0.mk (hb); have n1_ := Aside0.mk (ho); clear HB; clear HO_3; have HB := n0_; have HO120 := n1_; clear n0_ n1_; clear ho hb hg hat)); try go_wp2_with (first | ((with_reducible refine gate_builtin (b := .append) (xs := #[.tmp 74, .tmp 79]) rfl ?_); at_builtin; refine Kd.R_append k35 (w0 := w) w.heap.size rfl (.tmp 74) (.tmp 79) 25 35 (.agg #[(.int .i64 0), (.int .i64 0)]) 16 rfl Tryd.underlying25 info35 rfl (by decide) (by omega) u3 x3_1 (⟨(rd_T35 l0 x4_1).f0, (rd_T35 l0 x4_1).f1⟩ : S35) [.int .i64 ((rd_T35 l0 x4_1).f0), .int .i64 ((rd_T35 l0 x4_1).f1)] (fun _ => True) (fun _ => False) rfl rfl ?aP (fun _ hk => hk.elim) ?aF ?aO ?aB ?aS ?aL ?_; (case aP => exact k35_mkM _ _ _ (⟨(rd_T35 l0 x4_1).f0, (rd_T35 l0 x4_1).f1⟩ : S35)); (case aB => exact (bC0 HB)); (case aF => exact (fun _ _ => trivial)); (case aO => exact (bR HO_3)); (case aS => exact (below_size (bC0 HB))); (case aL => have := LMc19.out; omega); intro v119 w20 ho hb hg hat; rw [← Ny118.out] at ho; have n0_ := Aside0.mk (hb); have n1_ := Aside0.mk (ho); clear HB; clear HO_3; have HB := n0_; have HO120 := n1_; clear n0_ n1_; clear ho hb hg hat)))
              go_roundg k1
              case measure => have := HK1.out; omega
              case rel => exact ⟨(y118), (ji10), (by first | rfl | (simp; done) | (simp only [← hji10] <;> (first | rfl | simp)) | (simp [*]; done)), H', ⟨by have := HK1.out; omega⟩, ⟨by (with_reducible repeat (first | apply Kd.R_alloc | apply Kd.R_drewN | apply Kd.R_drew)); exact HO120.out⟩, ⟨(bC0 HB)⟩⟩
             ·rw [if_neg c19] at H; exact absurd H (by simp)
           ·rw [if_neg c17] at H
            have c17b0 : ((wrap64 (((rd_T35 l0 (ji10)).f0) - ((rd_T35 l0 x4_1).f0))) == (wrap64 (((rd_T35 l0 x4_1).f0) - ((rd_T35 l0 (ji14)).f0)))) = false := beq_eq_false_iff_ne.mpr c17; have c17b1 : ((wrap64 (((rd_T35 l0 (ji10)).f0) - ((rd_T35 l0 x4_1).f0))) != (wrap64 (((rd_T35 l0 x4_1).f0) - ((rd_T35 l0 (ji14)).f0)))) = true := bne_iff_ne.mpr c17
            by_cases c21 : x3_1.length < 8796093022208
            ·rw [if_pos c21] at H
             have LMc21 := Aside0.mk c21; clear c21; obtain ⟨y122, hy122⟩ : ∃ y_ : List (S35), y_ = (x3_1 ++ [(⟨(rd_T35 l0 x4_1).f0, (rd_T35 l0 x4_1).f1⟩ : S35)]) := ⟨_, rfl⟩
             replace H : (spec_l22Turns.l0 k1 l0 y122 ji10) = some r := by first | (rw [hy122]; with_reducible exact H) | (have H2_ := (Option.bind_some _ _).symm.trans H; rw [hy122]; with_reducible exact H2_) | (have H2_ := (Option.bind_some _ _).symm.trans H; with_reducible exact H2_) | with_reducible exact H | (rw [hy122]; exact H) | exact H
             have Ny122 := Aside0.mk hy122; clear hy122; have H' := Aside0.mk H; clear H; have p109 : 0 ≤ ((ji10) : Int) := of_decide_eq_true bX; have q109 : (ji10) < (l0.length : Int) := of_decide_eq_true bX; obtain ⟨ad109, e109, hx109_0, hx109_1⟩ := at_T35 HR0.out (ji10) p109 q109; obtain rfl : ad101 = ad109 := (by injection e109); replace hx109_0 := (HB.out.cell (World.block_lt_of_cell? w _ hx109_0)).trans hx109_0; replace hx109_1 := (HB.out.cell (World.block_lt_of_cell? w _ hx109_1)).trans hx109_1; replace p109 := eq_true p109; replace q109 := eq_true q109; have p110 : 0 ≤ (x4_1 : Int) := of_decide_eq_true bX; have q110 : x4_1 < (l0.length : Int) := of_decide_eq_true bX; obtain ⟨ad110, e110, hx110_0, hx110_1⟩ := at_T35 HR0.out x4_1 p110 q110; obtain rfl : ad101 = ad110 := (by injection e110); replace hx110_0 := (HB.out.cell (World.block_lt_of_cell? w _ hx110_0)).trans hx110_0; replace hx110_1 := (HB.out.cell (World.block_lt_of_cell? w _ hx110_1)).trans hx110_1; replace p110 := eq_true p110; replace q110 := eq_true q110; have p111 : 0 ≤ (x4_1 : Int) := of_decide_eq_true bX; have q111 : x4_1 < (l0.length : Int) := of_decide_eq_true bX; obtain ⟨ad111, e111, hx111_0, hx111_1⟩ := at_T35 HR0.out x4_1 p111 q111; obtain rfl : ad101 = ad111 := (by injection e111); replace hx111_0 := (HB.out.cell (World.block_lt_of_cell? w _ hx111_0)).trans hx111_0; replace hx111_1 := (HB.out.cell (World.block_lt_of_cell? w _ hx111_1)).trans hx111_1; replace p111 := eq_true p111; replace q111 := eq_true q111; have p112 : 0 ≤ ((ji14) : Int) := of_decide_eq_true bX; have q112 : (ji14) < (l0.length : Int) := of_decide_eq_true bX; obtain ⟨ad112, e112, hx112_0, hx112_1⟩ := at_T35 HR0.out (ji14) p112 q112; obtain rfl : ad101 = ad112 := (by injection e112); replace hx112_0 := (HB.out.cell (World.block_lt_of_cell? w _ hx112_0)).trans hx112_0; replace hx112_1 := (HB.out.cell (World.block_lt_of_cell? w _ hx112_1)).trans hx112_1; replace p112 := eq_true p112; replace q112 := eq_true q112; have p121 : 0 ≤ (x4_1 : Int) := of_decide_eq_true bX; have q121 : x4_1 < (l0.length : Int) := of_decide_eq_true bX; obtain ⟨ad121, e121, hx121_0, hx121_1⟩ := at_T35 HR0.out x4_1 p121 q121; obtain rfl : ad101 = ad121 := (by injection e121); replace hx121_0 := (HB.out.cell (World.block_lt_of_cell? w _ hx121_0)).trans hx121_0; replace hx121_1 := (HB.out.cell (World.block_lt_of_cell? w _ hx121_1)).trans hx121_1; replace p121 := eq_true p121; replace q121 := eq_true q121; go_wp2_with (first | ((with_reducible refine gate_builtin (b := .append) (xs := #[.tmp 74, .tmp 79]) rfl ?_); at_builtin; refine Kd.R_append k35 (w0 := w) w.heap.size rfl (.tmp 74) (.tmp 79) 25 35 (.agg #[(.int .i64 0), (.int .i64 0)]) 16 rfl Tryd.underlying25 info35 rfl (by decide) (by omega) u3 x3_1 (⟨(rd_T35 l0 x4_1).f0, (rd_T35 l0 x4_1).f1⟩ : S35) [.int .i64 ((rd_T35 l0 x4_1).f0), .int .i64 ((rd_T35 l0 x4_1).f1)] (fun _ => True) (fun _ => False) rfl rfl ?aP (fun _ hk => hk.elim) ?aF ?aO ?aB ?aS ?aL ?_; (case aP => exact k35_mkM _ _ _ (⟨(rd_T35 l0 x4_1).f0, (rd_T35 l0 x4_1).f1⟩ : S35)); (case aB => exact (bC0 HB)); (case aF => exact (fun _ _ => trivial)); (case aO => exact (bR HO_3)); (case aS => exact (below_size (bC0 HB))); (case aL => have := LMc21.out; omega); intro v123 w22 ho hb hg hat; rw [← Ny122.out] at ho; have n0_ := Aside0.mk (hb); have n1_ := Aside0.mk (ho); clear HB; clear HO_3; have HB := n0_; have HO124 := n1_; clear n0_ n1_; clear ho hb hg hat))
             repeat (go_quiet (first | ((with_reducible refine gate_builtin (b := .append) (xs := #[.tmp 74, .tmp 79]) rfl ?_); at_builtin; refine Kd.R_append k35 (w0 := w) w.heap.size rfl (.tmp 74) (.tmp 79) 25 35 (.agg #[(.int .i64 0), (.int .i64 0)]) 16 rfl Tryd.underlying25 info35 rfl (by decide) (by omega) u3 x3_1 (⟨(rd_T35 l0 x4_1).f0, (rd_T35 l0 x4_1).f1⟩ : S35) [.int .i64 ((rd_T35 l0 x4_1).f0), .int .i64 ((rd_T35 l0 x4_1).f1)] (fun _ => True) (fun _ => False) rfl rfl ?aP (fun _ hk => hk.elim) ?aF ?aO ?aB ?aS ?aL ?_; (case aP => exact k35_mkM _ _ _ (⟨(rd_T35 l0 x4_1).f0, (rd_T35 l0 x4_1).f1⟩ : S35)); (case aB => exact (bC0 HB)); (case aF => exact (fun _ _ => trivial)); (case aO => exact (bR HO_3)); (case aS => exact (below_size (bC0 HB))); (case aL => have := LMc21.out; omega); intro v123 w22 ho hb hg hat; rw [← Ny122.out] at ho; have n0_ := Aside0.mk (hb); have n1_ := Aside0.mk (ho); clear HB; clear HO_3; have HB := n0_; have HO124 := n1_; clear n0_ n1_; clear ho hb hg hat)); try go_wp2_with (first | ((with_reducible refine gate_builtin (b := .append) (xs := #[.tmp 74, .tmp 79]) rfl ?_); at_builtin; refine Kd.R_append k35 (w0 := w) w.heap.size rfl (.tmp 74) (.tmp 79) 25 35 (.agg #[(.int .i64 0), (.int .i64 0)]) 16 rfl Tryd.underlying25 info35 rfl (by decide) (by omega) u3 x3_1 (⟨(rd_T35 l0 x4_1).f0, (rd_T35 l0 x4_1).f1⟩ : S35) [.int .i64 ((rd_T35 l0 x4_1).f0), .int .i64 ((rd_T35 l0 x4_1).f1)] (fun _ => True) (fun _ => False) rfl rfl ?aP (fun _ hk => hk.elim) ?aF ?aO ?aB ?aS ?aL ?_; (case aP => exact k35_mkM _ _ _ (⟨(rd_T35 l0 x4_1).f0, (rd_T35 l0 x4_1).f1⟩ : S35)); (case aB => exact (bC0 HB)); (case aF => exact (fun _ _ => trivial)); (case aO => exact (bR HO_3)); (case aS => exact (below_size (bC0 HB))); (case aL => have := LMc21.out; omega); intro v123 w22 ho hb hg hat; rw [← Ny122.out] at ho; have n0_ := Aside0.mk (hb); have n1_ := Aside0.mk (ho); clear HB; clear HO_3; have HB := n0_; have HO124 := n1_; clear n0_ n1_; clear ho hb hg hat)))
             go_roundg k1
             case measure => have := HK1.out; omega
             case rel => exact ⟨(y122), (ji10), (by first | rfl | (simp; done) | (simp only [← hji10] <;> (first | rfl | simp)) | (simp [*]; done)), H', ⟨by have := HK1.out; omega⟩, ⟨by (with_reducible repeat (first | apply Kd.R_alloc | apply Kd.R_drewN | apply Kd.R_drew)); exact HO124.out⟩, ⟨(bC0 HB)⟩⟩
            ·rw [if_neg c21] at H; exact absurd H (by simp)
          ·rw [if_neg c16] at H; exact absurd H (by simp)
         ·rw [if_neg c15] at H; exact absurd H (by simp)
        ·rw [if_neg c13] at H; exact absurd H (by simp)
       ·rw [if_neg c12] at H; exact absurd H (by simp)
      ·rw [if_neg c11] at H; exact absurd H (by simp)
    ·rw [if_neg c5] at H
     have c5b0 : decide (x4_1 < (l0.length : Int)) = false := decide_eq_false c5; clear c5; obtain rfl := Option.some.inj H; go_wp2
     repeat (go_quiet (fail); try go_wp2)
     go_ret
     exact ⟨_, bE, by (with_reducible repeat (first | apply Kd.R_alloc | apply Kd.R_drewN | apply Kd.R_drew)); exact HO_3.out, (bC0 HB)⟩
 ·rw [if_neg c2] at H; exact absurd H (by simp)
set_option linter.unusedVariables false
set_option linter.unusedSimpArgs false
def spec_l6Dec.f : Nat → Int → Option (ByteArray)
  | 0, _ => none
  | k + 1, a0 => if a0 < (-9223372036854775807) then (some (⟨#[45, 57, 50, 50, 51, 51, 55, 50, 48, 51, 54, 56, 53, 52, 55, 55, 53, 56, 48, 56]⟩ : ByteArray)) else (if a0 < 0 then ((spec_l6Dec.f k (wrap64 (-a0))).bind fun t101 => (if 1 + t101.size ≤ 9223372036854775807 then (some ((⟨#[45]⟩ : ByteArray) ++ t101)) else (none))) else (if a0 < 10 then (some (strOfNums (([(wrap64 (48 + a0)) % 256] : List Int)))) else ((spec_l6Dec.f k (wrap64 (Int.tdiv a0 10))).bind fun t105 => ((some (([(wrap64 (48 + (Int.tmod a0 10))) % 256] : List Int) : List Int)).bind fun y106 => (if t105.size + (strOfNums y106).size ≤ 9223372036854775807 then (some (t105 ++ (strOfNums y106))) else (none))))))
theorem spec_l6Dec.mono_l : ∀ k, (∀ y0, LeO (spec_l6Dec.f k y0) (spec_l6Dec.f (k + 1) y0))
  | 0 => fun _ r h => by simp [spec_l6Dec.f] at h
  | k + 1 => by
    have ih0 := spec_l6Dec.mono_l k
    · intro y0
      unfold spec_l6Dec.f
      repeat' first
      | (with_reducible exact ih0 _)
      | (with_reducible exact LeO.refl _)
      | (with_reducible exact LeO.none _)
      | (with_reducible refine LeO.ite ?_ ?_)
      | (with_reducible refine LeO.bind ?_ (fun _ => ?_))
      | exact ih0 _
      | exact LeO.none _
      | refine LeO.ite ?_ ?_
      | refine LeO.bind ?_ (fun _ => ?_)
theorem spec_l6Dec.mono : ∀ a0 k, LeO (spec_l6Dec.f k a0) (spec_l6Dec.f (k + 1) a0) := by
  intro a0 k
  have ih0 := spec_l6Dec.mono_l k
  exact ih0 a0
def spec_l6Dec.T7 : Bool × List (List Nat × List Nat) := (true, [([], []), ([0], [0]), ([1], [1]), ([], []), ([3], [3]), ([4], [4]), ([5], [5]), ([6], [6]), ([7], [7]), ([2, 8], [2, 8]), ([9, 2, 0, 1, 2, 3, 4, 5, 6, 7, 8, 9], [9])])
def spec_l6Dec.B7 : List Nat := [0, 1, 3, 0, 8, 24, 56, 120, 248, 511, 1023]
theorem spec_l6Dec.tab7 : rtab .any (opsOf Tryd.f55 7) = spec_l6Dec.T7 := by kernel_rfl
theorem spec_l6Dec.bits7 : waitsOk spec_l6Dec.T7.2 spec_l6Dec.B7 = true := by kernel_rfl
set_option maxHeartbeats 8000000 in
set_option maxRecDepth 100000 in
theorem spec_l6Dec.calls (k : Nat) : ∀ (a0 : Int) (r : ByteArray) (w : World) (h : spec_l6Dec.f k a0 = some r),
  Calls Tryd.prog 55 #[.int .i64 a0] w fun e w' => e = .returned (.string r) ∧ Below w.heap.size w w' := by
 induction k using Nat.strongRecOn with
 | _ k ih =>
 intro a0 r w h
 cases k with
 | zero => exact absurd h (by simp [spec_l6Dec.f])
 | succ k =>
 simp only [spec_l6Dec.f] at h; have HB := Aside0.mk (Below.refl w.heap.size w); have H : (if a0 < (-9223372036854775807) then (some (⟨#[45, 57, 50, 50, 51, 51, 55, 50, 48, 51, 54, 56, 53, 52, 55, 55, 53, 56, 48, 56]⟩ : ByteArray)) else (if a0 < 0 then ((spec_l6Dec.f k (wrap64 (-a0))).bind fun t101 => (if 1 + t101.size ≤ 9223372036854775807 then (some ((⟨#[45]⟩ : ByteArray) ++ t101)) else (none))) else (if a0 < 10 then (some (strOfNums (([(wrap64 (48 + a0)) % 256] : List Int)))) else ((spec_l6Dec.f k (wrap64 (Int.tdiv a0 10))).bind fun t105 => ((some (([(wrap64 (48 + (Int.tmod a0 10))) % 256] : List Int) : List Int)).bind fun y106 => (if t105.size + (strOfNums y106).size ≤ 9223372036854775807 then (some (t105 ++ (strOfNums y106))) else (none))))))) = some r := h; clear h
 by_cases c2 : a0 < (-9223372036854775807)
 ·rw [if_pos c2] at H
  have c2b0 : decide (a0 < (-9223372036854775807)) = true := decide_eq_true c2; clear c2; obtain rfl := Option.some.inj H; go_enter Tryd.func55, Tryd.ntmps55; go_wp2; go_ret
  exact ⟨bE, (bC0 HB)⟩
 ·rw [if_neg c2] at H
  have c2b0 : decide (a0 < (-9223372036854775807)) = false := decide_eq_false c2; clear c2
  by_cases c3 : a0 < 0
  ·rw [if_pos c3] at H
   have c3b0 : decide (a0 < 0) = true := decide_eq_true c3; clear c3; replace H := Option.bind_eq_some_iff.mp H; obtain ⟨t101, A40, H⟩ := H; replace H : (if 1 + t101.size ≤ 9223372036854775807 then (some ((⟨#[45]⟩ : ByteArray) ++ t101)) else (none)) = some r := H; have A4 := Aside0.mk A40; clear A40
   by_cases c5 : 1 + t101.size ≤ 9223372036854775807
   ·rw [if_pos c5] at H
    have c5b0 := eq_true c5; have c5b1 : decide (1 + t101.size ≤ 9223372036854775807) = true := decide_eq_true c5
    try have c5b2 : (9223372036854775807 < 1 + t101.size) = False := eq_false (Nat.not_lt.2 c5)
    obtain rfl := Option.some.inj H; go_enter Tryd.func55, Tryd.ntmps55; go_wp2_with (first | ((with_reducible refine gate_callee (f := 55) rfl ?_); refine goesL_ (some 9) rfl rfl Tryd.func55 (by kernel_rfl) rfl #[.int .i64 (wrap64 (-a0))] rfl bM ?_; (with_reducible refine (ih k (by omega) (wrap64 (-a0)) t101 _ A4.out).mono ?_); rintro e w6 ⟨rfl, hb⟩; refine ⟨_, rfl, ?_⟩; have n0_ := Aside0.mk (below_step (bC0 HB) hb); clear HB; have HB := n0_; clear n0_; (try clear hb); (try clear hb2); (try clear hk); (try clear hi))); go_ret
    exact ⟨bE, (bC0 HB)⟩
   ·rw [if_neg c5] at H; exact absurd H (by simp)
  ·rw [if_neg c3] at H
   have c3b0 : decide (a0 < 0) = false := decide_eq_false c3; clear c3
   by_cases c7 : a0 < 10
   ·rw [if_pos c7] at H
    have c7b0 : decide (a0 < 10) = true := decide_eq_true c7; clear c7; obtain ⟨y102, hy102⟩ : ∃ y_ : List Int, y_ = (([(wrap64 (48 + a0)) % 256] : List Int)) := ⟨_, rfl⟩
    replace H : (some (strOfNums y102)) = some r := by first | (rw [hy102]; with_reducible exact H) | (have H2_ := (Option.bind_some _ _).symm.trans H; rw [hy102]; with_reducible exact H2_) | (have H2_ := (Option.bind_some _ _).symm.trans H; with_reducible exact H2_) | with_reducible exact H | (rw [hy102]; exact H) | exact H
    have Ny102 := Aside0.mk hy102; clear hy102; obtain rfl := Option.some.inj H; go_enter Tryd.func55, Tryd.ntmps55; go_wp2_with (first | ((with_reducible refine gate_dst (N := 16) rfl ?_); refine Kd.R_lit (Kd.int .u8) _ 5 ?hg (N := 16) ?hd (xs := ([(wrap64 (48 + a0)) % 256] : List Int)) (inner := [.int .u8 ((wrap64 (48 + a0)) % 256)]) (ok := fun _ => True) (okp := fun _ => True) ?hr ?hp (fun _ hk => hk) trivial (Below.refl _ _) (Nat.le_refl _) (by simp) ?_; (case hd => rfl); (case hg => rfl); (case hr => first | (go_simp; done) | (go_simp; rfl)); (case hp => exact (Reps.one (show Kd.M (Kd.int .u8) _ _ _ ((wrap64 (48 + a0)) % 256) [.int .u8 ((wrap64 (48 + a0)) % 256)] from rfl) (Reps.none _ _))); intro v103 w8 ho9 hb hg_ hnew_; clear hg_ hnew_; (first | rw [← Ny102.out] at ho9 | (simp only [Int.reduceToNat] at ho9; rw [← Ny102.out] at ho9)); have n0_ := Aside0.mk (Kd.R_lower ho9 (below_size (bC0 HB))); have n1_ := Aside0.mk (below_step (bC0 HB) hb); clear HB; have HO104 := n0_; have HB := n1_; clear n0_ n1_; clear hb ho9; have hcv10 := own_string (P := Tryd.prog) Tryd.underlying29 Tryd.underlying5 Tryd.underlying9 (Kd.own_of_R HO104.out))); go_ret
    exact ⟨bE, (bC0 HB)⟩
   ·rw [if_neg c7] at H
    have c7b0 : decide (a0 < 10) = false := decide_eq_false c7; clear c7; replace H := Option.bind_eq_some_iff.mp H; obtain ⟨t105, A110, H⟩ := H; replace H : ((some (([(wrap64 (48 + (Int.tmod a0 10))) % 256] : List Int) : List Int)).bind fun y106 => (if t105.size + (strOfNums y106).size ≤ 9223372036854775807 then (some (t105 ++ (strOfNums y106))) else (none))) = some r := H; have A11 := Aside0.mk A110; clear A110; obtain ⟨y106, hy106⟩ : ∃ y_ : List Int, y_ = (([(wrap64 (48 + (Int.tmod a0 10))) % 256] : List Int)) := ⟨_, rfl⟩
    replace H : (if t105.size + (strOfNums y106).size ≤ 9223372036854775807 then (some (t105 ++ (strOfNums y106))) else (none)) = some r := by first | (rw [hy106]; with_reducible exact H) | (have H2_ := (Option.bind_some _ _).symm.trans H; rw [hy106]; with_reducible exact H2_) | (have H2_ := (Option.bind_some _ _).symm.trans H; with_reducible exact H2_) | with_reducible exact H | (rw [hy106]; exact H) | exact H
    have Ny106 := Aside0.mk hy106; clear hy106
    by_cases c12 : t105.size + (strOfNums y106).size ≤ 9223372036854775807
    ·rw [if_pos c12] at H
     have c12b0 := eq_true c12; have c12b1 : decide (t105.size + (strOfNums y106).size ≤ 9223372036854775807) = true := decide_eq_true c12
     try have c12b2 : (9223372036854775807 < t105.size + (strOfNums y106).size) = False := eq_false (Nat.not_lt.2 c12)
     obtain rfl := Option.some.inj H; go_enter Tryd.func55, Tryd.ntmps55
     try go_wp2
     have n0_ := Aside0.mk (below_drew1 HB.out); clear HB; have HB := n0_; clear n0_; refine start_ (n := 11) (S := fun w' => True) (ds := []) #[false, false, false, false, false, false, false, false, false, false, false] (by kernel_rfl) rfl rfl trivial (fun hHeld => ?_); refine with_tabW spec_l6Dec.tab7 spec_l6Dec.bits7 (fun HT_ HW_ => ?_); generalize w.drew = w13 at HB hHeld ⊢; refine pure_ (i := 0) (N := some 18) (v := ?_) (a' := ?_) #[true, false, false, false, false, false, false, false, false, false, false] rfl rfl (any_of HT_.out (by kernel_rfl)) (fun _ _ _ h => h) (Or.inl ⟨by rfl, ?_⟩) ?_ ?_
     rotate_left
     ·intro w'; go_simp; with_reducible rfl
     rotate_left
     ·simp only [Act.put, List.setIfInBounds_toArray, List.set_cons_zero, List.set_cons_succ, i64_w, i32_w]; rfl
     refine pure_ (i := 1) (N := some 19) (v := ?_) (a' := ?_) #[true, true, false, false, false, false, false, false, false, false, false] rfl rfl (any_of HT_.out (by kernel_rfl)) (fun _ _ _ h => h) (Or.inl ⟨by rfl, ?_⟩) ?_ ?_
     rotate_left
     ·intro w'; go_simp; with_reducible rfl
     rotate_left
     ·simp only [Act.put, List.setIfInBounds_toArray, List.set_cons_zero, List.set_cons_succ, i64_w, i32_w]; rfl
     refine pure_ (i := 3) (N := some 21) (v := ?_) (a' := ?_) #[true, true, false, true, false, false, false, false, false, false, false] rfl rfl (any_of HT_.out (by kernel_rfl)) (fun _ _ _ h => h) (Or.inl ⟨by rfl, ?_⟩) ?_ ?_
     rotate_left
     ·intro w'; go_simp; with_reducible rfl
     rotate_left
     ·simp only [Act.put, List.setIfInBounds_toArray, List.set_cons_zero, List.set_cons_succ, i64_w, i32_w]; rfl
     refine pure_ (i := 4) (N := some 22) (v := ?_) (a' := ?_) #[true, true, false, true, true, false, false, false, false, false, false] rfl rfl (any_of HT_.out (by kernel_rfl)) (fun _ _ _ h => h) (Or.inl ⟨by rfl, ?_⟩) ?_ ?_
     rotate_left
     ·intro w'; go_simp; with_reducible rfl
     rotate_left
     ·simp only [Act.put, List.setIfInBounds_toArray, List.set_cons_zero, List.set_cons_succ, i64_w, i32_w]; rfl
     refine pure_ (i := 5) (N := some 23) (v := ?_) (a' := ?_) #[true, true, false, true, true, true, false, false, false, false, false] rfl rfl (any_of HT_.out (by kernel_rfl)) (fun _ _ _ h => h) (Or.inl ⟨by rfl, ?_⟩) ?_ ?_
     rotate_left
     ·intro w'; go_simp; with_reducible rfl
     rotate_left
     ·simp only [Act.put, List.setIfInBounds_toArray, List.set_cons_zero, List.set_cons_succ, i64_w, i32_w]; rfl
     refine pure_ (i := 6) (N := some 24) (v := ?_) (a' := ?_) #[true, true, false, true, true, true, true, false, false, false, false] rfl rfl (any_of HT_.out (by kernel_rfl)) (fun _ _ _ h => h) (Or.inl ⟨by rfl, ?_⟩) ?_ ?_
     rotate_left
     ·intro w'; go_simp; with_reducible rfl
     rotate_left
     ·simp only [Act.put, List.setIfInBounds_toArray, List.set_cons_zero, List.set_cons_succ, i64_w, i32_w]; rfl
     refine join_ (σ := Value) 2 #[true, true, true, true, true, true, true, true, true, false, false] (fun s_ => [(20, .string t105), (25, s_), (26, .string (strOfNums y106))]) (fun s_ w' => (Kd.R (Kd.int .u8) 5 w' w.heap.size (fun _ => True) s_ y106) ∧ (Below w.heap.size w w')) ?_ ?_
     rotate_left
     ·intro hCont
      refine two_ (i := 2) (j := 7) (Ni := some 20) (Nj := some 25) #[true, true, true, true, true, true, true, false, false, false, false] #[true, true, false, true, true, true, true, true, false, false, false] rfl rfl rfl rfl (two_of HT_.out (by kernel_rfl)) (by decide) (by decide) (fun K hK => ?_) (fun K hK => ?_)
      ·skip
       refine goes_ Tryd.func55 (by kernel_rfl) rfl #[.int .i64 (wrap64 (Int.tdiv a0 10))] (by rfl) rfl rfl bM ?_
       with_reducible refine (ih k (by omega) (wrap64 (Int.tdiv a0 10)) t105 _ A11.out).mono ?_
       rintro e w14 ⟨rfl, hb⟩; refine ⟨_, rfl, ?_⟩; have n0_ := Aside0.mk (below_step (bC0 HB) hb); clear HB; have HB := n0_; clear n0_; (try clear hb); (try clear hb2); (try clear hk); (try clear hi); refine hK.out _ _ trivial (fun hHeld => ?_); clear hK K; refine norm_ (a' := ?_) ?_ ?_
       rotate_left
       ·show Act.put _ (some 20) _ = _
        simp only [Act.put, List.setIfInBounds_toArray, List.set_cons_zero, List.set_cons_succ, i64_w, i32_w]; rfl
       refine one_ (i := 7) (N := some 25) #[true, true, true, true, true, true, true, true, false, false, false] rfl rfl (one_of HT_.out (by kernel_rfl)) (by decide) (fun K hK => ?_); refine Kd.R_lit_step (Kd.int .u8) _ 5 ?hg (N := 25) ?hd (xs := ([(wrap64 (48 + (Int.tmod a0 10))) % 256] : List Int)) (inner := [.int .u8 ((wrap64 (48 + (Int.tmod a0 10))) % 256)]) (ok := fun _ => True) (okp := fun _ => True) ?hr ?hp (fun _ hk => hk) trivial (Below.refl _ _) (Nat.le_refl _) (by simp) ?_; (case hd => rfl); (case hg => rfl); (case hr => first | (go_simp; done) | (go_simp; rfl)); (case hp => exact (Reps.one (show Kd.M (Kd.int .u8) _ _ _ ((wrap64 (48 + (Int.tmod a0 10))) % 256) [.int .u8 ((wrap64 (48 + (Int.tmod a0 10))) % 256)] from rfl) (Reps.none _ _))); intro v107 w15 ho16 hb hg_ hnew_; clear hg_ hnew_; (first | rw [← Ny106.out] at ho16 | (simp only [Int.reduceToNat] at ho16; rw [← Ny106.out] at ho16)); have n0_ := Aside0.mk (Kd.R_lower ho16 (below_size (bC0 HB))); have n1_ := Aside0.mk (below_step (bC0 HB) hb); clear HB; have HO108 := n0_; have HB := n1_; clear n0_ n1_; clear hb ho16; refine hK.out _ _ trivial (fun hHeld => ?_); clear hK K; refine norm_ (a' := ?_) ?_ ?_
       rotate_left
       ·show Act.put _ (some 25) _ = _
        simp only [Act.put, List.setIfInBounds_toArray, List.set_cons_zero, List.set_cons_succ, i64_w, i32_w]; rfl
       refine one_ (i := 8) (N := some 26) #[true, true, true, true, true, true, true, true, true, false, false] rfl rfl (one_of HT_.out (by kernel_rfl)) (by decide) (fun K hK => ?_); have hcv17 := own_string (P := Tryd.prog) Tryd.underlying29 Tryd.underlying5 Tryd.underlying9 (Kd.own_of_R HO108.out); refine value_ (w1 := ?_) (v := ?_) (by rfl) rfl ?_ ?_
       rotate_left 2
       ·go_simp
        constructor
        ·rfl
        ·rfl
       clear hcv17; refine hK.out _ _ trivial (fun hHeld => ?_); clear hK K; refine norm_ (a' := ?_) ?_ ?_
       rotate_left
       ·show Act.put _ (some 26) _ = _
        simp only [Act.put, List.setIfInBounds_toArray, List.set_cons_zero, List.set_cons_succ, i64_w, i32_w]; rfl
       exact norm_ (by simp only [putAll, Act.put, List.setIfInBounds_toArray, List.set_cons_zero, List.set_cons_succ]) (hCont (v107) _ ⟨(bR HO108), (bC0 HB)⟩)
      ·skip
       refine Kd.R_lit_step (Kd.int .u8) _ 5 ?hg (N := 25) ?hd (xs := ([(wrap64 (48 + (Int.tmod a0 10))) % 256] : List Int)) (inner := [.int .u8 ((wrap64 (48 + (Int.tmod a0 10))) % 256)]) (ok := fun _ => True) (okp := fun _ => True) ?hr ?hp (fun _ hk => hk) trivial (Below.refl _ _) (Nat.le_refl _) (by simp) ?_; (case hd => rfl); (case hg => rfl); (case hr => first | (go_simp; done) | (go_simp; rfl)); (case hp => exact (Reps.one (show Kd.M (Kd.int .u8) _ _ _ ((wrap64 (48 + (Int.tmod a0 10))) % 256) [.int .u8 ((wrap64 (48 + (Int.tmod a0 10))) % 256)] from rfl) (Reps.none _ _))); intro v107 w14 ho15 hb hg_ hnew_; clear hg_ hnew_; (first | rw [← Ny106.out] at ho15 | (simp only [Int.reduceToNat] at ho15; rw [← Ny106.out] at ho15)); have n0_ := Aside0.mk (Kd.R_lower ho15 (below_size (bC0 HB))); have n1_ := Aside0.mk (below_step (bC0 HB) hb); clear HB; have HO108 := n0_; have HB := n1_; clear n0_ n1_; clear hb ho15; refine hK.out _ _ trivial (fun hHeld => ?_); clear hK K; refine norm_ (a' := ?_) ?_ ?_
       rotate_left
       ·show Act.put _ (some 25) _ = _
        simp only [Act.put, List.setIfInBounds_toArray, List.set_cons_zero, List.set_cons_succ, i64_w, i32_w]; rfl
       refine two_ (i := 2) (j := 8) (Ni := some 20) (Nj := some 26) #[true, true, true, true, true, true, true, true, false, false, false] #[true, true, false, true, true, true, true, true, true, false, false] rfl rfl rfl rfl (two_of HT_.out (by kernel_rfl)) (by decide) (by decide) (fun K hK => ?_) (fun K hK => ?_)
       ·skip
        refine goes_ Tryd.func55 (by kernel_rfl) rfl #[.int .i64 (wrap64 (Int.tdiv a0 10))] (by rfl) rfl rfl bM ?_
        with_reducible refine (ih k (by omega) (wrap64 (Int.tdiv a0 10)) t105 _ A11.out).mono ?_
        rintro e w16 ⟨rfl, hb⟩; refine ⟨_, rfl, ?_⟩; have n0_ := Aside0.mk (Kd.R_below (bR HO108) hb); have n1_ := Aside0.mk (below_step (bC0 HB) hb); clear HO108; clear HB; have HO108 := n0_; have HB := n1_; clear n0_ n1_; (try clear hb); (try clear hb2); (try clear hk); (try clear hi); refine hK.out _ _ trivial (fun hHeld => ?_); clear hK K; refine norm_ (a' := ?_) ?_ ?_
        rotate_left
        ·show Act.put _ (some 20) _ = _
         simp only [Act.put, List.setIfInBounds_toArray, List.set_cons_zero, List.set_cons_succ, i64_w, i32_w]; rfl
        refine one_ (i := 8) (N := some 26) #[true, true, true, true, true, true, true, true, true, false, false] rfl rfl (one_of HT_.out (by kernel_rfl)) (by decide) (fun K hK => ?_); have hcv17 := own_string (P := Tryd.prog) Tryd.underlying29 Tryd.underlying5 Tryd.underlying9 (Kd.own_of_R HO108.out); refine value_ (w1 := ?_) (v := ?_) (by rfl) rfl ?_ ?_
        rotate_left 2
        ·go_simp
         constructor
         ·rfl
         ·rfl
        clear hcv17; refine hK.out _ _ trivial (fun hHeld => ?_); clear hK K; refine norm_ (a' := ?_) ?_ ?_
        rotate_left
        ·show Act.put _ (some 26) _ = _
         simp only [Act.put, List.setIfInBounds_toArray, List.set_cons_zero, List.set_cons_succ, i64_w, i32_w]; rfl
        exact norm_ (by simp only [putAll, Act.put, List.setIfInBounds_toArray, List.set_cons_zero, List.set_cons_succ]) (hCont (v107) _ ⟨(bR HO108), (bC0 HB)⟩)
       ·skip
        have hcv16 := own_string (P := Tryd.prog) Tryd.underlying29 Tryd.underlying5 Tryd.underlying9 (Kd.own_of_R HO108.out); refine value_ (w1 := ?_) (v := ?_) (by rfl) rfl ?_ ?_
        rotate_left 2
        ·go_simp
         constructor
         ·rfl
         ·rfl
        clear hcv16; refine hK.out _ _ trivial (fun hHeld => ?_); clear hK K; refine norm_ (a' := ?_) ?_ ?_
        rotate_left
        ·show Act.put _ (some 26) _ = _
         simp only [Act.put, List.setIfInBounds_toArray, List.set_cons_zero, List.set_cons_succ, i64_w, i32_w]; rfl
        refine one_ (i := 2) (N := some 20) #[true, true, true, true, true, true, true, true, true, false, false] rfl rfl (one_of HT_.out (by kernel_rfl)) (by decide) (fun K hK => ?_); refine goes_ Tryd.func55 (by kernel_rfl) rfl #[.int .i64 (wrap64 (Int.tdiv a0 10))] (by rfl) rfl rfl bM ?_
        with_reducible refine (ih k (by omega) (wrap64 (Int.tdiv a0 10)) t105 _ A11.out).mono ?_
        rintro e w17 ⟨rfl, hb⟩; refine ⟨_, rfl, ?_⟩; have n0_ := Aside0.mk (Kd.R_below (bR HO108) hb); have n1_ := Aside0.mk (below_step (bC0 HB) hb); clear HO108; clear HB; have HO108 := n0_; have HB := n1_; clear n0_ n1_; (try clear hb); (try clear hb2); (try clear hk); (try clear hi); refine hK.out _ _ trivial (fun hHeld => ?_); clear hK K; refine norm_ (a' := ?_) ?_ ?_
        rotate_left
        ·show Act.put _ (some 20) _ = _
         simp only [Act.put, List.setIfInBounds_toArray, List.set_cons_zero, List.set_cons_succ, i64_w, i32_w]; rfl
        exact norm_ (by simp only [putAll, Act.put, List.setIfInBounds_toArray, List.set_cons_zero, List.set_cons_succ]) (hCont (v107) _ ⟨(bR HO108), (bC0 HB)⟩)
     rintro v107 w18 ⟨h0_, h1_⟩; have n0_ : Aside0 (Kd.R (Kd.int .u8) 5 w18 w.heap.size (fun _ => True) v107 y106) := ⟨h0_⟩; have n1_ : Aside0 (Below w.heap.size w w18) := ⟨h1_⟩; clear HB; clear h0_ h1_; have HO108 := n0_; have HB := n1_; clear n0_ n1_; have hHeld := trivial; refine norm_ (a' := ?_) ?_ ?_
     rotate_left
     ·simp only [putAll, Act.put, List.setIfInBounds_toArray, List.set_cons_zero, List.set_cons_succ]; rfl
     refine pure_ (i := 9) (N := some 27) (v := ?_) (a' := ?_) #[true, true, true, true, true, true, true, true, true, true, false] rfl rfl (any_of HT_.out (by kernel_rfl)) (fun _ _ _ h => h) (Or.inl ⟨by rfl, ?_⟩) ?_ ?_
     rotate_left
     ·intro w'; go_simp; with_reducible rfl
     rotate_left
     ·simp only [Act.put, List.setIfInBounds_toArray, List.set_cons_zero, List.set_cons_succ, i64_w, i32_w]; rfl
     refine pure_ (i := 10) (N := some 2) (v := ?_) (a' := ?_) #[true, true, true, true, true, true, true, true, true, true, true] rfl rfl (any_of HT_.out (by kernel_rfl)) (fun _ _ _ h => h) (Or.inl ⟨by rfl, ?_⟩) ?_ ?_
     rotate_left
     ·intro w'; go_simp; with_reducible rfl
     rotate_left
     ·simp only [Act.put, List.setIfInBounds_toArray, List.set_cons_zero, List.set_cons_succ, i64_w, i32_w]; rfl
     refine done_ (done_of HT_.out (by kernel_rfl)) ?_
     try go_wp2
     go_ret
     exact ⟨bE, (bC0 HB)⟩
    ·rw [if_neg c12] at H; exact absurd H (by simp)
set_option linter.unusedVariables false
set_option linter.unusedSimpArgs false
def spec_l22Write.l0 : Nat → List (S35) → ByteArray → Int → Option (ByteArray)
  | 0, _, _, _ => none
  | k + 1, x3, x4, x5 => if x5 < (x3.length : Int) then (if x5 = 0 then (if x4.size + 2 ≤ 9223372036854775807 then (if (x4 ++ (⟨#[71, 48]⟩ : ByteArray)).size + 2 ≤ 9223372036854775807 then (if 0 ≤ x5 then ((spec_l6Dec.f k ((rd_T35 x3 x5).f0)).bind fun t105 => (if ((x4 ++ (⟨#[71, 48]⟩ : ByteArray)) ++ (⟨#[32, 88]⟩ : ByteArray)).size + t105.size ≤ 9223372036854775807 then (if (((x4 ++ (⟨#[71, 48]⟩ : ByteArray)) ++ (⟨#[32, 88]⟩ : ByteArray)) ++ t105).size + 2 ≤ 9223372036854775807 then ((spec_l6Dec.f k ((rd_T35 x3 x5).f1)).bind fun t107 => (if ((((x4 ++ (⟨#[71, 48]⟩ : ByteArray)) ++ (⟨#[32, 88]⟩ : ByteArray)) ++ t105) ++ (⟨#[32, 89]⟩ : ByteArray)).size + t107.size ≤ 9223372036854775807 then (if (((((x4 ++ (⟨#[71, 48]⟩ : ByteArray)) ++ (⟨#[32, 88]⟩ : ByteArray)) ++ t105) ++ (⟨#[32, 89]⟩ : ByteArray)) ++ t107).size + 1 ≤ 9223372036854775807 then (spec_l22Write.l0 k x3 ((((((x4 ++ (⟨#[71, 48]⟩ : ByteArray)) ++ (⟨#[32, 88]⟩ : ByteArray)) ++ t105) ++ (⟨#[32, 89]⟩ : ByteArray)) ++ t107) ++ (⟨#[10]⟩ : ByteArray)) (wrap64 (x5 + 1))) else (none)) else (none))) else (none)) else (none))) else (none)) else (none)) else (none)) else (if x4.size + 2 ≤ 9223372036854775807 then (if (x4 ++ (⟨#[71, 49]⟩ : ByteArray)).size + 2 ≤ 9223372036854775807 then (if 0 ≤ x5 then ((spec_l6Dec.f k ((rd_T35 x3 x5).f0)).bind fun t109 => (if ((x4 ++ (⟨#[71, 49]⟩ : ByteArray)) ++ (⟨#[32, 88]⟩ : ByteArray)).size + t109.size ≤ 9223372036854775807 then (if (((x4 ++ (⟨#[71, 49]⟩ : ByteArray)) ++ (⟨#[32, 88]⟩ : ByteArray)) ++ t109).size + 2 ≤ 9223372036854775807 then ((spec_l6Dec.f k ((rd_T35 x3 x5).f1)).bind fun t111 => (if ((((x4 ++ (⟨#[71, 49]⟩ : ByteArray)) ++ (⟨#[32, 88]⟩ : ByteArray)) ++ t109) ++ (⟨#[32, 89]⟩ : ByteArray)).size + t111.size ≤ 9223372036854775807 then (if (((((x4 ++ (⟨#[71, 49]⟩ : ByteArray)) ++ (⟨#[32, 88]⟩ : ByteArray)) ++ t109) ++ (⟨#[32, 89]⟩ : ByteArray)) ++ t111).size + 1 ≤ 9223372036854775807 then (spec_l22Write.l0 k x3 ((((((x4 ++ (⟨#[71, 49]⟩ : ByteArray)) ++ (⟨#[32, 88]⟩ : ByteArray)) ++ t109) ++ (⟨#[32, 89]⟩ : ByteArray)) ++ t111) ++ (⟨#[10]⟩ : ByteArray)) (wrap64 (x5 + 1))) else (none)) else (none))) else (none)) else (none))) else (none)) else (none)) else (none))) else (some x4)
def spec_l22Write.f (k : Nat) (l0 : List (S35)) : Option (ByteArray) := (spec_l22Turns.f k l0).bind fun t101 => (spec_l22Write.l0 k t101 (⟨#[]⟩ : ByteArray) 0)
theorem spec_l22Write.mono_l : ∀ k, (∀ y0 y1 y2, LeO (spec_l22Write.l0 k y0 y1 y2) (spec_l22Write.l0 (k + 1) y0 y1 y2))
  | 0 => fun _ _ _ r h => by simp [spec_l22Write.l0] at h
  | k + 1 => by
    have ih0 := spec_l22Write.mono_l k
    · intro y0 y1 y2
      unfold spec_l22Write.l0
      repeat' first
      | (with_reducible exact ih0 _ _ _)
      | (with_reducible exact spec_l22Turns.mono _ _)
      | (with_reducible exact spec_l6Dec.mono _ _)
      | (with_reducible exact LeO.refl _)
      | (with_reducible exact LeO.none _)
      | (with_reducible refine LeO.ite ?_ ?_)
      | (with_reducible refine LeO.bind ?_ (fun _ => ?_))
      | exact ih0 _ _ _
      | exact spec_l22Turns.mono _ _
      | exact spec_l6Dec.mono _ _
      | exact LeO.none _
      | refine LeO.ite ?_ ?_
      | refine LeO.bind ?_ (fun _ => ?_)
theorem spec_l22Write.mono : ∀ a0 k, LeO (spec_l22Write.f k a0) (spec_l22Write.f (k + 1) a0) := by
  intro a0 k
  have ih0 := spec_l22Write.mono_l k
  unfold spec_l22Write.f
  repeat' first
      | (with_reducible exact ih0 _ _ _)
      | (with_reducible exact spec_l22Turns.mono _ _)
      | (with_reducible exact spec_l6Dec.mono _ _)
      | (with_reducible exact LeO.refl _)
      | (with_reducible exact LeO.none _)
      | (with_reducible refine LeO.ite ?_ ?_)
      | (with_reducible refine LeO.bind ?_ (fun _ => ?_))
      | exact ih0 _ _ _
      | exact spec_l22Turns.mono _ _
      | exact spec_l6Dec.mono _ _
      | exact LeO.none _
      | refine LeO.ite ?_ ?_
      | refine LeO.bind ?_ (fun _ => ?_)
def spec_l22Write.T9 : Bool × List (List Nat × List Nat) := (true, [([], []), ([], []), ([0, 1], [0, 1]), ([2], [2]), ([], []), ([], []), ([4, 5], [4, 5]), ([6], [6]), ([7], [7]), ([8], [8]), ([3, 9], [3, 9]), ([10], [10]), ([], []), ([], []), ([12, 13], [12, 13]), ([14], [14]), ([15], [15]), ([16, 9], [16]), ([11, 17], [11, 17]), ([18], [18]), ([19, 17, 0, 1, 2, 3, 4, 5, 6, 7, 8, 9, 10, 11, 12, 13, 14, 15, 16, 17, 18, 19], [0, 19])])
def spec_l22Write.B9 : List Nat := [0, 0, 3, 7, 0, 0, 48, 112, 240, 496, 1023, 2047, 0, 0, 12288, 28672, 61440, 127984, 262143, 524287, 1048575]
theorem spec_l22Write.tab9 : rtab .any (opsOf Tryd.f29 9) = spec_l22Write.T9 := by kernel_rfl
theorem spec_l22Write.bits9 : waitsOk spec_l22Write.T9.2 spec_l22Write.B9 = true := by kernel_rfl
abbrev spec_l22Write.y_ : Bool := true
abbrev spec_l22Write.n_ : Bool := false
set_option maxHeartbeats 8000000 in
set_option maxRecDepth 100000 in
theorem spec_l22Write.calls (k : Nat) (A0 : Option Addr) (c0 : Nat) (l0 : List (S35)) (r : ByteArray) (w : World) (hr0 : Kd.C k35 w A0 l0.length l0) (hc0 : l0.length ≤ c0) (h : spec_l22Write.f k l0 = some r) :
  Calls Tryd.prog 29 #[.slice A0 l0.length c0] w fun e w' => e = .returned (.string r) ∧ Below w.heap.size w w' := by
 have HR0 := Aside0.mk hr0; have HC0 := Aside0.mk hc0; clear hr0 hc0; have HB := Aside0.mk (Below.refl w.heap.size w); have H : ((spec_l22Turns.f k l0).bind fun t101 => (spec_l22Write.l0 k t101 (⟨#[]⟩ : ByteArray) 0)) = some r := h; clear h; replace H := Option.bind_eq_some_iff.mp H; obtain ⟨t101, A20, H⟩ := H; replace H : (spec_l22Write.l0 k t101 (⟨#[]⟩ : ByteArray) 0) = some r := H; have A2 := Aside0.mk A20; clear A20; have H' := Aside0.mk H; clear H; go_enter Tryd.func29, Tryd.ntmps29; go_wp2_with (first | ((with_reducible refine gate_callee (f := 54) rfl ?_); refine goesL_ (some 8) rfl rfl Tryd.func54 (by kernel_rfl) rfl #[.slice A0 l0.length c0] rfl bM ?_; (with_reducible refine (spec_l22Turns.calls k _ _ l0 t101 _ ?side1 ?side2 A2.out).mono ?_); (case side1 => repeat (first | exact HR0.out | (with_reducible refine Kd.C_alloc ?_ _) | (with_reducible refine Kd.C_drewN ?_ _) | (with_reducible refine Kd.C_drew ?_))); (case side2 => exact HC0.out); rintro e w3 ⟨v102, rfl, ho0, hb⟩; refine ⟨_, rfl, ?_⟩; have n0_ := Aside0.mk (Kd.R_lower ho0 (below_size (bC0 HB))); have n1_ := Aside0.mk (below_step (bC0 HB) hb); clear HB; have HO103 := n0_; have HB := n1_; clear n0_ n1_; (try clear hb); (try clear hb2); (try clear hk); (try clear hi); (try clear ho0))); go_loopg [4, 5] k (fun kq v4 v5 w' => ∃ (x4_1 : ByteArray) (x5_1 : Int), v4 = .string x4_1 ∧ v5 = .int .i64 x5_1 ∧ Aside0 (spec_l22Write.l0 kq t101 x4_1 x5_1 = some r) ∧ Aside0 (kq ≤ k) ∧ Aside0 (Kd.R k35 35 w' w.heap.size (fun _ => True) v102 t101) ∧ Aside0 (Below w.heap.size w w'))
 case atStart => exact ⟨((⟨#[]⟩ : ByteArray)), (0), (by first | rfl | (simp; done) | (simp [*]; done)), (by first | rfl | (simp; done) | (simp [*]; done)), H', ⟨Nat.le_refl _⟩, ⟨by (with_reducible repeat (first | apply Kd.R_alloc | apply Kd.R_drewN | apply Kd.R_drew)); exact HO103.out⟩, ⟨(bC0 HB)⟩⟩
 case round =>
  clear H'
  try clear c2
  try clear p2
  obtain ⟨x4_1, x5_1, rfl, rfl, HA, HK1, HO_3, HB⟩ := hrel
  cases gk with
  | zero => exact absurd HA.out (by simp [spec_l22Write.l0])
  | succ k1 =>
   have H := HA.out; clear HA; simp only [spec_l22Write.l0] at H
   by_cases c4 : x5_1 < (t101.length : Int)
   ·rw [if_pos c4] at H
    have c4b0 : decide (x5_1 < (t101.length : Int)) = true := decide_eq_true c4; clear c4
    by_cases c5 : x5_1 = 0
    ·rw [if_pos c5] at H
     have c5b0 : (x5_1 == 0) = true := beq_iff_eq.mpr c5; have c5b1 : (x5_1 != 0) = false := bne_eq_false_iff_eq.mpr c5; clear c5
     by_cases c6 : x4_1.size + 2 ≤ 9223372036854775807
     ·rw [if_pos c6] at H
      have c6b0 := eq_true c6; have c6b1 : decide (x4_1.size + 2 ≤ 9223372036854775807) = true := decide_eq_true c6
      try have c6b2 : (9223372036854775807 < x4_1.size + 2) = False := eq_false (Nat.not_lt.2 c6)
      by_cases c7 : (x4_1 ++ (⟨#[71, 48]⟩ : ByteArray)).size + 2 ≤ 9223372036854775807
      ·rw [if_pos c7] at H
       have c7b0 := eq_true c7; have c7b1 : decide ((x4_1 ++ (⟨#[71, 48]⟩ : ByteArray)).size + 2 ≤ 9223372036854775807) = true := decide_eq_true c7
       try have c7b2 : (9223372036854775807 < (x4_1 ++ (⟨#[71, 48]⟩ : ByteArray)).size + 2) = False := eq_false (Nat.not_lt.2 c7)
       try (have c7b4 := c7b2; simp only [ByteArray.size_append', ByteArray.size_mk', List.size_toArray, List.length_cons, List.length_nil, Nat.reduceAdd, Nat.zero_add] at c7b4)
       by_cases c8 : 0 ≤ x5_1
       ·rw [if_pos c8] at H
        have c8b0 : decide (0 ≤ x5_1) = true := decide_eq_true c8; clear c8; replace H := Option.bind_eq_some_iff.mp H; obtain ⟨t105, A90, H⟩ := H; replace H : (if ((x4_1 ++ (⟨#[71, 48]⟩ : ByteArray)) ++ (⟨#[32, 88]⟩ : ByteArray)).size + t105.size ≤ 9223372036854775807 then (if (((x4_1 ++ (⟨#[71, 48]⟩ : ByteArray)) ++ (⟨#[32, 88]⟩ : ByteArray)) ++ t105).size + 2 ≤ 9223372036854775807 then ((spec_l6Dec.f k1 ((rd_T35 t101 x5_1).f1)).bind fun t107 => (if ((((x4_1 ++ (⟨#[71, 48]⟩ : ByteArray)) ++ (⟨#[32, 88]⟩ : ByteArray)) ++ t105) ++ (⟨#[32, 89]⟩ : ByteArray)).size + t107.size ≤ 9223372036854775807 then (if (((((x4_1 ++ (⟨#[71, 48]⟩ : ByteArray)) ++ (⟨#[32, 88]⟩ : ByteArray)) ++ t105) ++ (⟨#[32, 89]⟩ : ByteArray)) ++ t107).size + 1 ≤ 9223372036854775807 then (spec_l22Write.l0 k1 t101 ((((((x4_1 ++ (⟨#[71, 48]⟩ : ByteArray)) ++ (⟨#[32, 88]⟩ : ByteArray)) ++ t105) ++ (⟨#[32, 89]⟩ : ByteArray)) ++ t107) ++ (⟨#[10]⟩ : ByteArray)) (wrap64 (x5_1 + 1))) else (none)) else (none))) else (none)) else (none)) = some r := H; have A9 := Aside0.mk A90; clear A90
        by_cases c10 : ((x4_1 ++ (⟨#[71, 48]⟩ : ByteArray)) ++ (⟨#[32, 88]⟩ : ByteArray)).size + t105.size ≤ 9223372036854775807
        ·rw [if_pos c10] at H
         have c10b0 := eq_true c10; have c10b1 : decide (((x4_1 ++ (⟨#[71, 48]⟩ : ByteArray)) ++ (⟨#[32, 88]⟩ : ByteArray)).size + t105.size ≤ 9223372036854775807) = true := decide_eq_true c10
         try have c10b2 : (9223372036854775807 < ((x4_1 ++ (⟨#[71, 48]⟩ : ByteArray)) ++ (⟨#[32, 88]⟩ : ByteArray)).size + t105.size) = False := eq_false (Nat.not_lt.2 c10)
         try (have c10b4 := c10b2; simp only [ByteArray.size_append', ByteArray.size_mk', List.size_toArray, List.length_cons, List.length_nil, Nat.reduceAdd, Nat.zero_add] at c10b4)
         by_cases c11 : (((x4_1 ++ (⟨#[71, 48]⟩ : ByteArray)) ++ (⟨#[32, 88]⟩ : ByteArray)) ++ t105).size + 2 ≤ 9223372036854775807
         ·rw [if_pos c11] at H
          have c11b0 := eq_true c11; have c11b1 : decide ((((x4_1 ++ (⟨#[71, 48]⟩ : ByteArray)) ++ (⟨#[32, 88]⟩ : ByteArray)) ++ t105).size + 2 ≤ 9223372036854775807) = true := decide_eq_true c11
          try have c11b2 : (9223372036854775807 < (((x4_1 ++ (⟨#[71, 48]⟩ : ByteArray)) ++ (⟨#[32, 88]⟩ : ByteArray)) ++ t105).size + 2) = False := eq_false (Nat.not_lt.2 c11)
          try (have c11b4 := c11b2; simp only [ByteArray.size_append', ByteArray.size_mk', List.size_toArray, List.length_cons, List.length_nil, Nat.reduceAdd, Nat.zero_add] at c11b4)
          replace H := Option.bind_eq_some_iff.mp H; obtain ⟨t107, A120, H⟩ := H; replace H : (if ((((x4_1 ++ (⟨#[71, 48]⟩ : ByteArray)) ++ (⟨#[32, 88]⟩ : ByteArray)) ++ t105) ++ (⟨#[32, 89]⟩ : ByteArray)).size + t107.size ≤ 9223372036854775807 then (if (((((x4_1 ++ (⟨#[71, 48]⟩ : ByteArray)) ++ (⟨#[32, 88]⟩ : ByteArray)) ++ t105) ++ (⟨#[32, 89]⟩ : ByteArray)) ++ t107).size + 1 ≤ 9223372036854775807 then (spec_l22Write.l0 k1 t101 ((((((x4_1 ++ (⟨#[71, 48]⟩ : ByteArray)) ++ (⟨#[32, 88]⟩ : ByteArray)) ++ t105) ++ (⟨#[32, 89]⟩ : ByteArray)) ++ t107) ++ (⟨#[10]⟩ : ByteArray)) (wrap64 (x5_1 + 1))) else (none)) else (none)) = some r := H; have A12 := Aside0.mk A120; clear A120
          by_cases c13 : ((((x4_1 ++ (⟨#[71, 48]⟩ : ByteArray)) ++ (⟨#[32, 88]⟩ : ByteArray)) ++ t105) ++ (⟨#[32, 89]⟩ : ByteArray)).size + t107.size ≤ 9223372036854775807
          ·rw [if_pos c13] at H
           have c13b0 := eq_true c13; have c13b1 : decide (((((x4_1 ++ (⟨#[71, 48]⟩ : ByteArray)) ++ (⟨#[32, 88]⟩ : ByteArray)) ++ t105) ++ (⟨#[32, 89]⟩ : ByteArray)).size + t107.size ≤ 9223372036854775807) = true := decide_eq_true c13
           try have c13b2 : (9223372036854775807 < ((((x4_1 ++ (⟨#[71, 48]⟩ : ByteArray)) ++ (⟨#[32, 88]⟩ : ByteArray)) ++ t105) ++ (⟨#[32, 89]⟩ : ByteArray)).size + t107.size) = False := eq_false (Nat.not_lt.2 c13)
           try (have c13b4 := c13b2; simp only [ByteArray.size_append', ByteArray.size_mk', List.size_toArray, List.length_cons, List.length_nil, Nat.reduceAdd, Nat.zero_add] at c13b4)
           by_cases c14 : (((((x4_1 ++ (⟨#[71, 48]⟩ : ByteArray)) ++ (⟨#[32, 88]⟩ : ByteArray)) ++ t105) ++ (⟨#[32, 89]⟩ : ByteArray)) ++ t107).size + 1 ≤ 9223372036854775807
           ·rw [if_pos c14] at H
            have c14b0 := eq_true c14; have c14b1 : decide ((((((x4_1 ++ (⟨#[71, 48]⟩ : ByteArray)) ++ (⟨#[32, 88]⟩ : ByteArray)) ++ t105) ++ (⟨#[32, 89]⟩ : ByteArray)) ++ t107).size + 1 ≤ 9223372036854775807) = true := decide_eq_true c14
            try have c14b2 : (9223372036854775807 < (((((x4_1 ++ (⟨#[71, 48]⟩ : ByteArray)) ++ (⟨#[32, 88]⟩ : ByteArray)) ++ t105) ++ (⟨#[32, 89]⟩ : ByteArray)) ++ t107).size + 1) = False := eq_false (Nat.not_lt.2 c14)
            try (have c14b4 := c14b2; simp only [ByteArray.size_append', ByteArray.size_mk', List.size_toArray, List.length_cons, List.length_nil, Nat.reduceAdd, Nat.zero_add] at c14b4)
            have H' := Aside0.mk H; clear H; obtain ⟨Ao15, co15, eo15⟩ := Kd.R_slice HO_3.out; subst eo15
            try go_wp2
            have n0_ := Aside0.mk (Kd.R_drew HO_3.out); have n1_ := Aside0.mk (below_drew1 HB.out); clear HO_3; clear HB; have HO_3 := n0_; have HB := n1_; clear n0_ n1_; have p104 : 0 ≤ (x5_1 : Int) := of_decide_eq_true bX; have q104 : x5_1 < (t101.length : Int) := of_decide_eq_true bX; obtain ⟨ad104, e104, hx104_0, hx104_1⟩ := at_T35 (Kd.R_reads' HO_3.out).2.2 x5_1 p104 q104
            cases e104
            replace p104 := eq_true p104; replace q104 := eq_true q104; have p106 : 0 ≤ (x5_1 : Int) := of_decide_eq_true bX; have q106 : x5_1 < (t101.length : Int) := of_decide_eq_true bX; obtain ⟨ad106, e106, hx106_0, hx106_1⟩ := at_T35 (Kd.R_reads' HO_3.out).2.2 x5_1 p106 q106; obtain rfl : ad104 = ad106 := (by injection e106); replace p106 := eq_true p106; replace q106 := eq_true q106; refine start_ (n := 21) (S := fun w' => w'.cell? (ad104.add ((x5_1).toNat * 2)) = some (.int .i64 ((rd_T35 t101 x5_1).f0)) ∧ w'.cell? ⟨(ad104.add ((x5_1).toNat * 2)).block, (ad104.add ((x5_1).toNat * 2)).off + 1, none⟩ = some (.int .i64 ((rd_T35 t101 x5_1).f1)) ∧ w'.cell? (ad104.add ((x5_1).toNat * 2)) = some (.int .i64 ((rd_T35 t101 x5_1).f0)) ∧ w'.cell? ⟨(ad104.add ((x5_1).toNat * 2)).block, (ad104.add ((x5_1).toNat * 2)).off + 1, none⟩ = some (.int .i64 ((rd_T35 t101 x5_1).f1))) (ds := []) #[n_,n_,n_,n_,n_,n_,n_,n_,n_,n_,n_,n_,n_,n_,n_,n_,n_,n_,n_,n_,n_] (by kernel_rfl) rfl rfl ⟨hx104_0, hx104_1, hx106_0, hx106_1⟩ (fun hHeld => ?_); refine with_tabW spec_l22Write.tab9 spec_l22Write.bits9 (fun HT_ HW_ => ?_); generalize wr.drew = w16 at HO_3 HB hx104_0 hx104_1 hx106_0 hx106_1 hHeld ⊢; refine pure_ (i := 0) (N := some 17) (v := ?_) (a' := ?_) #[y_,n_,n_,n_,n_,n_,n_,n_,n_,n_,n_,n_,n_,n_,n_,n_,n_,n_,n_,n_,n_] rfl rfl (any_of HT_.out (by kernel_rfl)) (fun _ _ _ h => h) (Or.inl ⟨by rfl, ?_⟩) ?_ ?_
            rotate_left
            ·intro w'; go_simp; with_reducible rfl
            rotate_left
            ·simp only [Act.put, List.setIfInBounds_toArray, List.set_cons_zero, List.set_cons_succ, i64_w, i32_w]; rfl
            refine pure_ (i := 1) (N := some 18) (v := ?_) (a' := ?_) #[y_,y_,n_,n_,n_,n_,n_,n_,n_,n_,n_,n_,n_,n_,n_,n_,n_,n_,n_,n_,n_] rfl rfl (any_of HT_.out (by kernel_rfl)) (fun _ _ _ h => h) (Or.inl ⟨by rfl, ?_⟩) ?_ ?_
            rotate_left
            ·intro w'; go_simp; with_reducible rfl
            rotate_left
            ·simp only [Act.put, List.setIfInBounds_toArray, List.set_cons_zero, List.set_cons_succ, i64_w, i32_w]; rfl
            refine pure_ (i := 2) (N := some 19) (v := ?_) (a' := ?_) #[y_,y_,y_,n_,n_,n_,n_,n_,n_,n_,n_,n_,n_,n_,n_,n_,n_,n_,n_,n_,n_] rfl rfl (any_of HT_.out (by kernel_rfl)) (fun _ _ _ h => h) (Or.inl ⟨by rfl, ?_⟩) ?_ ?_
            rotate_left
            ·intro w'; go_simp; with_reducible rfl
            rotate_left
            ·simp only [Act.put, List.setIfInBounds_toArray, List.set_cons_zero, List.set_cons_succ, i64_w, i32_w]; rfl
            refine pure_ (i := 3) (N := some 20) (v := ?_) (a' := ?_) #[y_,y_,y_,y_,n_,n_,n_,n_,n_,n_,n_,n_,n_,n_,n_,n_,n_,n_,n_,n_,n_] rfl rfl (any_of HT_.out (by kernel_rfl)) (fun _ _ _ h => h) (Or.inl ⟨by rfl, ?_⟩) ?_ ?_
            rotate_left
            ·intro w'; go_simp; with_reducible rfl
            rotate_left
            ·simp only [Act.put, List.setIfInBounds_toArray, List.set_cons_zero, List.set_cons_succ, i64_w, i32_w]; rfl
            refine pure_ (i := 4) (N := some 21) (v := ?_) (a' := ?_) #[y_,y_,y_,y_,y_,n_,n_,n_,n_,n_,n_,n_,n_,n_,n_,n_,n_,n_,n_,n_,n_] rfl rfl (any_of HT_.out (by kernel_rfl)) (fun _ _ _ h => h) (Or.inl ⟨by rfl, ?_⟩) ?_ ?_
            rotate_left
            ·intro w'; go_simp; with_reducible rfl
            rotate_left
            ·simp only [Act.put, List.setIfInBounds_toArray, List.set_cons_zero, List.set_cons_succ, i64_w, i32_w]; rfl
            refine pure_ (i := 5) (N := some 22) (v := ?_) (a' := ?_) #[y_,y_,y_,y_,y_,y_,n_,n_,n_,n_,n_,n_,n_,n_,n_,n_,n_,n_,n_,n_,n_] rfl rfl (any_of HT_.out (by kernel_rfl)) (fun _ _ _ h => h) (Or.inl ⟨by rfl, ?_⟩) ?_ ?_
            rotate_left
            ·intro w'; go_simp; with_reducible rfl
            rotate_left
            ·simp only [Act.put, List.setIfInBounds_toArray, List.set_cons_zero, List.set_cons_succ, i64_w, i32_w]; rfl
            refine pure_ (i := 6) (N := some 23) (v := ?_) (a' := ?_) #[y_,y_,y_,y_,y_,y_,y_,n_,n_,n_,n_,n_,n_,n_,n_,n_,n_,n_,n_,n_,n_] rfl rfl (any_of HT_.out (by kernel_rfl)) (fun _ _ _ h => h) (Or.inl ⟨by rfl, ?_⟩) ?_ ?_
            rotate_left
            ·intro w'; go_simp; with_reducible rfl
            rotate_left
            ·simp only [Act.put, List.setIfInBounds_toArray, List.set_cons_zero, List.set_cons_succ, i64_w, i32_w]; rfl
            refine pure_ (i := 7) (N := some 24) (v := ?_) (a' := ?_) #[y_,y_,y_,y_,y_,y_,y_,y_,n_,n_,n_,n_,n_,n_,n_,n_,n_,n_,n_,n_,n_] rfl rfl (any_of HT_.out (by kernel_rfl)) (fun _ _ _ h => h) (Or.inl ⟨by rfl, ?_⟩) ?_ ?_
            rotate_left
            ·intro w'; go_simp; with_reducible rfl
            rotate_left
            ·simp only [Act.put, List.setIfInBounds_toArray, List.set_cons_zero, List.set_cons_succ, i64_w, i32_w]; rfl
            refine pure_ (i := 12) (N := some 29) (v := ?_) (a' := ?_) #[y_,y_,y_,y_,y_,y_,y_,y_,n_,n_,n_,n_,y_,n_,n_,n_,n_,n_,n_,n_,n_] rfl rfl (any_of HT_.out (by kernel_rfl)) (fun _ _ _ h => h) (Or.inl ⟨by rfl, ?_⟩) ?_ ?_
            rotate_left
            ·intro w'; go_simp; with_reducible rfl
            rotate_left
            ·simp only [Act.put, List.setIfInBounds_toArray, List.set_cons_zero, List.set_cons_succ, i64_w, i32_w]; rfl
            refine pure_ (i := 13) (N := some 30) (v := ?_) (a' := ?_) #[y_,y_,y_,y_,y_,y_,y_,y_,n_,n_,n_,n_,y_,y_,n_,n_,n_,n_,n_,n_,n_] rfl rfl (any_of HT_.out (by kernel_rfl)) (fun _ _ _ h => h) (Or.inl ⟨by rfl, ?_⟩) ?_ ?_
            rotate_left
            ·intro w'; go_simp; with_reducible rfl
            rotate_left
            ·simp only [Act.put, List.setIfInBounds_toArray, List.set_cons_zero, List.set_cons_succ, i64_w, i32_w]; rfl
            refine pure_ (i := 14) (N := some 31) (v := ?_) (a' := ?_) #[y_,y_,y_,y_,y_,y_,y_,y_,n_,n_,n_,n_,y_,y_,y_,n_,n_,n_,n_,n_,n_] rfl rfl (any_of HT_.out (by kernel_rfl)) (fun _ _ _ h => h) (Or.inl ⟨by rfl, ?_⟩) ?_ ?_
            rotate_left
            ·intro w'; go_simp; with_reducible rfl
            rotate_left
            ·simp only [Act.put, List.setIfInBounds_toArray, List.set_cons_zero, List.set_cons_succ, i64_w, i32_w]; rfl
            refine pure_ (i := 15) (N := some 32) (v := ?_) (a' := ?_) #[y_,y_,y_,y_,y_,y_,y_,y_,n_,n_,n_,n_,y_,y_,y_,y_,n_,n_,n_,n_,n_] rfl rfl (any_of HT_.out (by kernel_rfl)) (fun _ _ _ h => h) (Or.inl ⟨by rfl, ?_⟩) ?_ ?_
            rotate_left
            ·intro w'; go_simp; with_reducible rfl
            rotate_left
            ·simp only [Act.put, List.setIfInBounds_toArray, List.set_cons_zero, List.set_cons_succ, i64_w, i32_w]; rfl
            refine take_ (i := 8) (N := some 25) (v := ?_) (a' := ?_) #[y_,y_,y_,y_,y_,y_,y_,y_,y_,n_,n_,n_,y_,y_,y_,y_,n_,n_,n_,n_,n_] rfl rfl (take_ofW HT_.out HW_.out (by kernel_rfl)) (fun _ _ _ h => h) (Or.inl ⟨by rfl, ?_⟩) hHeld ?_ ?_
            rotate_left
            ·rintro w' ⟨s0, s1, s2, s3⟩; go_simp; with_reducible rfl
            rotate_left
            ·simp only [Act.put, List.setIfInBounds_toArray, List.set_cons_zero, List.set_cons_succ, i64_w, i32_w]; rfl
            refine take_ (i := 16) (N := some 33) (v := ?_) (a' := ?_) #[y_,y_,y_,y_,y_,y_,y_,y_,y_,n_,n_,n_,y_,y_,y_,y_,y_,n_,n_,n_,n_] rfl rfl (take_ofW HT_.out HW_.out (by kernel_rfl)) (fun _ _ _ h => h) (Or.inl ⟨by rfl, ?_⟩) hHeld ?_ ?_
            rotate_left
            ·rintro w' ⟨s0, s1, s2, s3⟩; go_simp; with_reducible rfl
            rotate_left
            ·simp only [Act.put, List.setIfInBounds_toArray, List.set_cons_zero, List.set_cons_succ, i64_w, i32_w]; rfl
            refine one_ (i := 9) (N := some 26) #[y_,y_,y_,y_,y_,y_,y_,y_,y_,y_,n_,n_,y_,y_,y_,y_,y_,n_,n_,n_,n_] rfl rfl (one_of HT_.out (by kernel_rfl)) (by decide) (fun K hK => ?_); refine goes_ Tryd.func55 (by kernel_rfl) rfl #[.int .i64 ((rd_T35 t101 x5_1).f0)] (by rfl) rfl rfl bM ?_
            with_reducible refine (spec_l6Dec.calls k1 ((rd_T35 t101 x5_1).f0) t105 _ A9.out).mono ?_
            rintro e w17 ⟨rfl, hb⟩; have HS0_ := (hb.cell (World.block_lt_of_cell? _ _ (hHeld.1))).trans (hHeld.1); have HS1_ := (hb.cell (World.block_lt_of_cell? _ _ (hHeld.2.1))).trans (hHeld.2.1); have HS2_ := (hb.cell (World.block_lt_of_cell? _ _ (hHeld.2.2.1))).trans (hHeld.2.2.1); have HS3_ := (hb.cell (World.block_lt_of_cell? _ _ (hHeld.2.2.2))).trans (hHeld.2.2.2); refine ⟨_, rfl, ?_⟩; have n0_ := Aside0.mk (Kd.R_below (bR HO_3) hb); have n1_ := Aside0.mk (below_step (bC0 HB) hb); clear HO_3; clear HB; have HO_3 := n0_; have HB := n1_; clear n0_ n1_; (try clear hb); (try clear hb2); (try clear hk); (try clear hi); refine hK.out _ _ ⟨HS0_, HS1_, HS2_, HS3_⟩ (fun hHeld => ?_); clear hK K; refine norm_ (a' := ?_) ?_ ?_
            rotate_left
            ·show Act.put _ (some 26) _ = _
             simp only [Act.put, List.setIfInBounds_toArray, List.set_cons_zero, List.set_cons_succ, i64_w, i32_w]; rfl
            refine pure_ (i := 10) (N := some 27) (v := ?_) (a' := ?_) #[y_,y_,y_,y_,y_,y_,y_,y_,y_,y_,y_,n_,y_,y_,y_,y_,y_,n_,n_,n_,n_] rfl rfl (any_of HT_.out (by kernel_rfl)) (fun _ _ _ h => h) (Or.inl ⟨by rfl, ?_⟩) ?_ ?_
            rotate_left
            ·intro w'; go_simp; with_reducible rfl
            rotate_left
            ·simp only [Act.put, List.setIfInBounds_toArray, List.set_cons_zero, List.set_cons_succ, i64_w, i32_w]; rfl
            refine pure_ (i := 11) (N := some 28) (v := ?_) (a' := ?_) #[y_,y_,y_,y_,y_,y_,y_,y_,y_,y_,y_,y_,y_,y_,y_,y_,y_,n_,n_,n_,n_] rfl rfl (any_of HT_.out (by kernel_rfl)) (fun _ _ _ h => h) (Or.inl ⟨by rfl, ?_⟩) ?_ ?_
            rotate_left
            ·intro w'; go_simp; with_reducible rfl
            rotate_left
            ·simp only [Act.put, List.setIfInBounds_toArray, List.set_cons_zero, List.set_cons_succ, i64_w, i32_w]; rfl
            refine one_ (i := 17) (N := some 34) #[y_,y_,y_,y_,y_,y_,y_,y_,y_,y_,y_,y_,y_,y_,y_,y_,y_,y_,n_,n_,n_] rfl rfl (one_of HT_.out (by kernel_rfl)) (by decide) (fun K hK => ?_); refine goes_ Tryd.func55 (by kernel_rfl) rfl #[.int .i64 ((rd_T35 t101 x5_1).f1)] (by rfl) rfl rfl bM ?_
            with_reducible refine (spec_l6Dec.calls k1 ((rd_T35 t101 x5_1).f1) t107 _ A12.out).mono ?_
            rintro e w18 ⟨rfl, hb⟩; have HS0_ := (hb.cell (World.block_lt_of_cell? _ _ (hHeld.1))).trans (hHeld.1); have HS1_ := (hb.cell (World.block_lt_of_cell? _ _ (hHeld.2.1))).trans (hHeld.2.1); have HS2_ := (hb.cell (World.block_lt_of_cell? _ _ (hHeld.2.2.1))).trans (hHeld.2.2.1); have HS3_ := (hb.cell (World.block_lt_of_cell? _ _ (hHeld.2.2.2))).trans (hHeld.2.2.2); refine ⟨_, rfl, ?_⟩; have n0_ := Aside0.mk (Kd.R_below (bR HO_3) hb); have n1_ := Aside0.mk (below_step (bC0 HB) hb); clear HO_3; clear HB; have HO_3 := n0_; have HB := n1_; clear n0_ n1_; (try clear hb); (try clear hb2); (try clear hk); (try clear hi); refine hK.out _ _ ⟨HS0_, HS1_, HS2_, HS3_⟩ (fun hHeld => ?_); clear hK K; refine norm_ (a' := ?_) ?_ ?_
            rotate_left
            ·show Act.put _ (some 34) _ = _
             simp only [Act.put, List.setIfInBounds_toArray, List.set_cons_zero, List.set_cons_succ, i64_w, i32_w]; rfl
            refine pure_ (i := 18) (N := some 35) (v := ?_) (a' := ?_) #[y_,y_,y_,y_,y_,y_,y_,y_,y_,y_,y_,y_,y_,y_,y_,y_,y_,y_,y_,n_,n_] rfl rfl (any_of HT_.out (by kernel_rfl)) (fun _ _ _ h => h) (Or.inl ⟨by rfl, ?_⟩) ?_ ?_
            rotate_left
            ·intro w'; go_simp; with_reducible rfl
            rotate_left
            ·simp only [Act.put, List.setIfInBounds_toArray, List.set_cons_zero, List.set_cons_succ, i64_w, i32_w]; rfl
            refine pure_ (i := 19) (N := some 36) (v := ?_) (a' := ?_) #[y_,y_,y_,y_,y_,y_,y_,y_,y_,y_,y_,y_,y_,y_,y_,y_,y_,y_,y_,y_,n_] rfl rfl (any_of HT_.out (by kernel_rfl)) (fun _ _ _ h => h) (Or.inl ⟨by rfl, ?_⟩) ?_ ?_
            rotate_left
            ·intro w'; go_simp; with_reducible rfl
            rotate_left
            ·simp only [Act.put, List.setIfInBounds_toArray, List.set_cons_zero, List.set_cons_succ, i64_w, i32_w]; rfl
            refine pure_ (i := 20) (N := some 4) (v := ?_) (a' := ?_) #[y_,y_,y_,y_,y_,y_,y_,y_,y_,y_,y_,y_,y_,y_,y_,y_,y_,y_,y_,y_,y_] rfl rfl (any_of HT_.out (by kernel_rfl)) (fun _ _ _ h => h) (Or.inl ⟨by rfl, ?_⟩) ?_ ?_
            rotate_left
            ·intro w'; go_simp; with_reducible rfl
            rotate_left
            ·simp only [Act.put, List.setIfInBounds_toArray, List.set_cons_zero, List.set_cons_succ, i64_w, i32_w]; rfl
            refine done_ (done_of HT_.out (by kernel_rfl)) ?_
            try go_wp2
            go_roundg k1
            case measure => have := HK1.out; omega
            case rel => exact ⟨((((((x4_1 ++ (⟨#[71, 48]⟩ : ByteArray)) ++ (⟨#[32, 88]⟩ : ByteArray)) ++ t105) ++ (⟨#[32, 89]⟩ : ByteArray)) ++ t107) ++ (⟨#[10]⟩ : ByteArray)), (wrap64 (x5_1 + 1)), (by first | rfl | (simp; done) | (simp [*]; done)), (by first | rfl | (simp; done) | (simp [*]; done)), H', ⟨by have := HK1.out; omega⟩, ⟨by (with_reducible repeat (first | apply Kd.R_alloc | apply Kd.R_drewN | apply Kd.R_drew)); exact HO_3.out⟩, ⟨(bC0 HB)⟩⟩
           ·rw [if_neg c14] at H; exact absurd H (by simp)
          ·rw [if_neg c13] at H; exact absurd H (by simp)
         ·rw [if_neg c11] at H; exact absurd H (by simp)
        ·rw [if_neg c10] at H; exact absurd H (by simp)
       ·rw [if_neg c8] at H; exact absurd H (by simp)
      ·rw [if_neg c7] at H; exact absurd H (by simp)
     ·rw [if_neg c6] at H; exact absurd H (by simp)
    ·rw [if_neg c5] at H
     have c5b0 : (x5_1 == 0) = false := beq_eq_false_iff_ne.mpr c5; have c5b1 : (x5_1 != 0) = true := bne_iff_ne.mpr c5
     by_cases c19 : x4_1.size + 2 ≤ 9223372036854775807
     ·rw [if_pos c19] at H
      have c19b0 := eq_true c19; have c19b1 : decide (x4_1.size + 2 ≤ 9223372036854775807) = true := decide_eq_true c19
      try have c19b2 : (9223372036854775807 < x4_1.size + 2) = False := eq_false (Nat.not_lt.2 c19)
      by_cases c20 : (x4_1 ++ (⟨#[71, 49]⟩ : ByteArray)).size + 2 ≤ 9223372036854775807
      ·rw [if_pos c20] at H
       have c20b0 := eq_true c20; have c20b1 : decide ((x4_1 ++ (⟨#[71, 49]⟩ : ByteArray)).size + 2 ≤ 9223372036854775807) = true := decide_eq_true c20
       try have c20b2 : (9223372036854775807 < (x4_1 ++ (⟨#[71, 49]⟩ : ByteArray)).size + 2) = False := eq_false (Nat.not_lt.2 c20)
       try (have c20b4 := c20b2; simp only [ByteArray.size_append', ByteArray.size_mk', List.size_toArray, List.length_cons, List.length_nil, Nat.reduceAdd, Nat.zero_add] at c20b4)
       by_cases c21 : 0 ≤ x5_1
       ·rw [if_pos c21] at H
        have c21b0 : decide (0 ≤ x5_1) = true := decide_eq_true c21; clear c21; replace H := Option.bind_eq_some_iff.mp H; obtain ⟨t109, A220, H⟩ := H; replace H : (if ((x4_1 ++ (⟨#[71, 49]⟩ : ByteArray)) ++ (⟨#[32, 88]⟩ : ByteArray)).size + t109.size ≤ 9223372036854775807 then (if (((x4_1 ++ (⟨#[71, 49]⟩ : ByteArray)) ++ (⟨#[32, 88]⟩ : ByteArray)) ++ t109).size + 2 ≤ 9223372036854775807 then ((spec_l6Dec.f k1 ((rd_T35 t101 x5_1).f1)).bind fun t111 => (if ((((x4_1 ++ (⟨#[71, 49]⟩ : ByteArray)) ++ (⟨#[32, 88]⟩ : ByteArray)) ++ t109) ++ (⟨#[32, 89]⟩ : ByteArray)).size + t111.size ≤ 9223372036854775807 then (if (((((x4_1 ++ (⟨#[71, 49]⟩ : ByteArray)) ++ (⟨#[32, 88]⟩ : ByteArray)) ++ t109) ++ (⟨#[32, 89]⟩ : ByteArray)) ++ t111).size + 1 ≤ 9223372036854775807 then (spec_l22Write.l0 k1 t101 ((((((x4_1 ++ (⟨#[71, 49]⟩ : ByteArray)) ++ (⟨#[32, 88]⟩ : ByteArray)) ++ t109) ++ (⟨#[32, 89]⟩ : ByteArray)) ++ t111) ++ (⟨#[10]⟩ : ByteArray)) (wrap64 (x5_1 + 1))) else (none)) else (none))) else (none)) else (none)) = some r := H; have A22 := Aside0.mk A220; clear A220
        by_cases c23 : ((x4_1 ++ (⟨#[71, 49]⟩ : ByteArray)) ++ (⟨#[32, 88]⟩ : ByteArray)).size + t109.size ≤ 9223372036854775807
        ·rw [if_pos c23] at H
         have c23b0 := eq_true c23; have c23b1 : decide (((x4_1 ++ (⟨#[71, 49]⟩ : ByteArray)) ++ (⟨#[32, 88]⟩ : ByteArray)).size + t109.size ≤ 9223372036854775807) = true := decide_eq_true c23
         try have c23b2 : (9223372036854775807 < ((x4_1 ++ (⟨#[71, 49]⟩ : ByteArray)) ++ (⟨#[32, 88]⟩ : ByteArray)).size + t109.size) = False := eq_false (Nat.not_lt.2 c23)
         try (have c23b4 := c23b2; simp only [ByteArray.size_append', ByteArray.size_mk', List.size_toArray, List.length_cons, List.length_nil, Nat.reduceAdd, Nat.zero_add] at c23b4)
         by_cases c24 : (((x4_1 ++ (⟨#[71, 49]⟩ : ByteArray)) ++ (⟨#[32, 88]⟩ : ByteArray)) ++ t109).size + 2 ≤ 9223372036854775807
         ·rw [if_pos c24] at H
          have c24b0 := eq_true c24; have c24b1 : decide ((((x4_1 ++ (⟨#[71, 49]⟩ : ByteArray)) ++ (⟨#[32, 88]⟩ : ByteArray)) ++ t109).size + 2 ≤ 9223372036854775807) = true := decide_eq_true c24
          try have c24b2 : (9223372036854775807 < (((x4_1 ++ (⟨#[71, 49]⟩ : ByteArray)) ++ (⟨#[32, 88]⟩ : ByteArray)) ++ t109).size + 2) = False := eq_false (Nat.not_lt.2 c24)
          try (have c24b4 := c24b2; simp only [ByteArray.size_append', ByteArray.size_mk', List.size_toArray, List.length_cons, List.length_nil, Nat.reduceAdd, Nat.zero_add] at c24b4)
          replace H := Option.bind_eq_some_iff.mp H; obtain ⟨t111, A250, H⟩ := H; replace H : (if ((((x4_1 ++ (⟨#[71, 49]⟩ : ByteArray)) ++ (⟨#[32, 88]⟩ : ByteArray)) ++ t109) ++ (⟨#[32, 89]⟩ : ByteArray)).size + t111.size ≤ 9223372036854775807 then (if (((((x4_1 ++ (⟨#[71, 49]⟩ : ByteArray)) ++ (⟨#[32, 88]⟩ : ByteArray)) ++ t109) ++ (⟨#[32, 89]⟩ : ByteArray)) ++ t111).size + 1 ≤ 9223372036854775807 then (spec_l22Write.l0 k1 t101 ((((((x4_1 ++ (⟨#[71, 49]⟩ : ByteArray)) ++ (⟨#[32, 88]⟩ : ByteArray)) ++ t109) ++ (⟨#[32, 89]⟩ : ByteArray)) ++ t111) ++ (⟨#[10]⟩ : ByteArray)) (wrap64 (x5_1 + 1))) else (none)) else (none)) = some r := H; have A25 := Aside0.mk A250; clear A250
          by_cases c26 : ((((x4_1 ++ (⟨#[71, 49]⟩ : ByteArray)) ++ (⟨#[32, 88]⟩ : ByteArray)) ++ t109) ++ (⟨#[32, 89]⟩ : ByteArray)).size + t111.size ≤ 9223372036854775807
          ·rw [if_pos c26] at H
           have c26b0 := eq_true c26; have c26b1 : decide (((((x4_1 ++ (⟨#[71, 49]⟩ : ByteArray)) ++ (⟨#[32, 88]⟩ : ByteArray)) ++ t109) ++ (⟨#[32, 89]⟩ : ByteArray)).size + t111.size ≤ 9223372036854775807) = true := decide_eq_true c26
           try have c26b2 : (9223372036854775807 < ((((x4_1 ++ (⟨#[71, 49]⟩ : ByteArray)) ++ (⟨#[32, 88]⟩ : ByteArray)) ++ t109) ++ (⟨#[32, 89]⟩ : ByteArray)).size + t111.size) = False := eq_false (Nat.not_lt.2 c26)
           try (have c26b4 := c26b2; simp only [ByteArray.size_append', ByteArray.size_mk', List.size_toArray, List.length_cons, List.length_nil, Nat.reduceAdd, Nat.zero_add] at c26b4)
           by_cases c27 : (((((x4_1 ++ (⟨#[71, 49]⟩ : ByteArray)) ++ (⟨#[32, 88]⟩ : ByteArray)) ++ t109) ++ (⟨#[32, 89]⟩ : ByteArray)) ++ t111).size + 1 ≤ 9223372036854775807
           ·rw [if_pos c27] at H
            have c27b0 := eq_true c27; have c27b1 : decide ((((((x4_1 ++ (⟨#[71, 49]⟩ : ByteArray)) ++ (⟨#[32, 88]⟩ : ByteArray)) ++ t109) ++ (⟨#[32, 89]⟩ : ByteArray)) ++ t111).size + 1 ≤ 9223372036854775807) = true := decide_eq_true c27
            try have c27b2 : (9223372036854775807 < (((((x4_1 ++ (⟨#[71, 49]⟩ : ByteArray)) ++ (⟨#[32, 88]⟩ : ByteArray)) ++ t109) ++ (⟨#[32, 89]⟩ : ByteArray)) ++ t111).size + 1) = False := eq_false (Nat.not_lt.2 c27)
            try (have c27b4 := c27b2; simp only [ByteArray.size_append', ByteArray.size_mk', List.size_toArray, List.length_cons, List.length_nil, Nat.reduceAdd, Nat.zero_add] at c27b4)
            have H' := Aside0.mk H; clear H; obtain ⟨Ao28, co28, eo28⟩ := Kd.R_slice HO_3.out; subst eo28
            try go_wp2
            have n0_ := Aside0.mk (Kd.R_drew HO_3.out); have n1_ := Aside0.mk (below_drew1 HB.out); clear HO_3; clear HB; have HO_3 := n0_; have HB := n1_; clear n0_ n1_; have p108 : 0 ≤ (x5_1 : Int) := of_decide_eq_true bX; have q108 : x5_1 < (t101.length : Int) := of_decide_eq_true bX; obtain ⟨ad108, e108, hx108_0, hx108_1⟩ := at_T35 (Kd.R_reads' HO_3.out).2.2 x5_1 p108 q108
            cases e108
            replace p108 := eq_true p108; replace q108 := eq_true q108; have p110 : 0 ≤ (x5_1 : Int) := of_decide_eq_true bX; have q110 : x5_1 < (t101.length : Int) := of_decide_eq_true bX; obtain ⟨ad110, e110, hx110_0, hx110_1⟩ := at_T35 (Kd.R_reads' HO_3.out).2.2 x5_1 p110 q110; obtain rfl : ad108 = ad110 := (by injection e110); replace p110 := eq_true p110; replace q110 := eq_true q110; refine start_ (n := 21) (S := fun w' => w'.cell? (ad108.add ((x5_1).toNat * 2)) = some (.int .i64 ((rd_T35 t101 x5_1).f0)) ∧ w'.cell? ⟨(ad108.add ((x5_1).toNat * 2)).block, (ad108.add ((x5_1).toNat * 2)).off + 1, none⟩ = some (.int .i64 ((rd_T35 t101 x5_1).f1)) ∧ w'.cell? (ad108.add ((x5_1).toNat * 2)) = some (.int .i64 ((rd_T35 t101 x5_1).f0)) ∧ w'.cell? ⟨(ad108.add ((x5_1).toNat * 2)).block, (ad108.add ((x5_1).toNat * 2)).off + 1, none⟩ = some (.int .i64 ((rd_T35 t101 x5_1).f1))) (ds := []) #[n_,n_,n_,n_,n_,n_,n_,n_,n_,n_,n_,n_,n_,n_,n_,n_,n_,n_,n_,n_,n_] (by kernel_rfl) rfl rfl ⟨hx108_0, hx108_1, hx110_0, hx110_1⟩ (fun hHeld => ?_); refine with_tabW spec_l22Write.tab9 spec_l22Write.bits9 (fun HT_ HW_ => ?_); generalize wr.drew = w29 at HO_3 HB hx108_0 hx108_1 hx110_0 hx110_1 hHeld ⊢; refine pure_ (i := 0) (N := some 17) (v := ?_) (a' := ?_) #[y_,n_,n_,n_,n_,n_,n_,n_,n_,n_,n_,n_,n_,n_,n_,n_,n_,n_,n_,n_,n_] rfl rfl (any_of HT_.out (by kernel_rfl)) (fun _ _ _ h => h) (Or.inl ⟨by rfl, ?_⟩) ?_ ?_
            rotate_left
            ·intro w'; go_simp; with_reducible rfl
            rotate_left
            ·simp only [Act.put, List.setIfInBounds_toArray, List.set_cons_zero, List.set_cons_succ, i64_w, i32_w]; rfl
            refine pure_ (i := 1) (N := some 18) (v := ?_) (a' := ?_) #[y_,y_,n_,n_,n_,n_,n_,n_,n_,n_,n_,n_,n_,n_,n_,n_,n_,n_,n_,n_,n_] rfl rfl (any_of HT_.out (by kernel_rfl)) (fun _ _ _ h => h) (Or.inl ⟨by rfl, ?_⟩) ?_ ?_
            rotate_left
            ·intro w'; go_simp; with_reducible rfl
            rotate_left
            ·simp only [Act.put, List.setIfInBounds_toArray, List.set_cons_zero, List.set_cons_succ, i64_w, i32_w]; rfl
            refine pure_ (i := 2) (N := some 19) (v := ?_) (a' := ?_) #[y_,y_,y_,n_,n_,n_,n_,n_,n_,n_,n_,n_,n_,n_,n_,n_,n_,n_,n_,n_,n_] rfl rfl (any_of HT_.out (by kernel_rfl)) (fun _ _ _ h => h) (Or.inl ⟨by rfl, ?_⟩) ?_ ?_
            rotate_left
            ·intro w'; go_simp; with_reducible rfl
            rotate_left
            ·simp only [Act.put, List.setIfInBounds_toArray, List.set_cons_zero, List.set_cons_succ, i64_w, i32_w]; rfl
            refine pure_ (i := 3) (N := some 20) (v := ?_) (a' := ?_) #[y_,y_,y_,y_,n_,n_,n_,n_,n_,n_,n_,n_,n_,n_,n_,n_,n_,n_,n_,n_,n_] rfl rfl (any_of HT_.out (by kernel_rfl)) (fun _ _ _ h => h) (Or.inl ⟨by rfl, ?_⟩) ?_ ?_
            rotate_left
            ·intro w'; go_simp; with_reducible rfl
            rotate_left
            ·simp only [Act.put, List.setIfInBounds_toArray, List.set_cons_zero, List.set_cons_succ, i64_w, i32_w]; rfl
            refine pure_ (i := 4) (N := some 21) (v := ?_) (a' := ?_) #[y_,y_,y_,y_,y_,n_,n_,n_,n_,n_,n_,n_,n_,n_,n_,n_,n_,n_,n_,n_,n_] rfl rfl (any_of HT_.out (by kernel_rfl)) (fun _ _ _ h => h) (Or.inl ⟨by rfl, ?_⟩) ?_ ?_
            rotate_left
            ·intro w'; go_simp; with_reducible rfl
            rotate_left
            ·simp only [Act.put, List.setIfInBounds_toArray, List.set_cons_zero, List.set_cons_succ, i64_w, i32_w]; rfl
            refine pure_ (i := 5) (N := some 22) (v := ?_) (a' := ?_) #[y_,y_,y_,y_,y_,y_,n_,n_,n_,n_,n_,n_,n_,n_,n_,n_,n_,n_,n_,n_,n_] rfl rfl (any_of HT_.out (by kernel_rfl)) (fun _ _ _ h => h) (Or.inl ⟨by rfl, ?_⟩) ?_ ?_
            rotate_left
            ·intro w'; go_simp; with_reducible rfl
            rotate_left
            ·simp only [Act.put, List.setIfInBounds_toArray, List.set_cons_zero, List.set_cons_succ, i64_w, i32_w]; rfl
            refine pure_ (i := 6) (N := some 23) (v := ?_) (a' := ?_) #[y_,y_,y_,y_,y_,y_,y_,n_,n_,n_,n_,n_,n_,n_,n_,n_,n_,n_,n_,n_,n_] rfl rfl (any_of HT_.out (by kernel_rfl)) (fun _ _ _ h => h) (Or.inl ⟨by rfl, ?_⟩) ?_ ?_
            rotate_left
            ·intro w'; go_simp; with_reducible rfl
            rotate_left
            ·simp only [Act.put, List.setIfInBounds_toArray, List.set_cons_zero, List.set_cons_succ, i64_w, i32_w]; rfl
            refine pure_ (i := 7) (N := some 24) (v := ?_) (a' := ?_) #[y_,y_,y_,y_,y_,y_,y_,y_,n_,n_,n_,n_,n_,n_,n_,n_,n_,n_,n_,n_,n_] rfl rfl (any_of HT_.out (by kernel_rfl)) (fun _ _ _ h => h) (Or.inl ⟨by rfl, ?_⟩) ?_ ?_
            rotate_left
            ·intro w'; go_simp; with_reducible rfl
            rotate_left
            ·simp only [Act.put, List.setIfInBounds_toArray, List.set_cons_zero, List.set_cons_succ, i64_w, i32_w]; rfl
            refine pure_ (i := 12) (N := some 29) (v := ?_) (a' := ?_) #[y_,y_,y_,y_,y_,y_,y_,y_,n_,n_,n_,n_,y_,n_,n_,n_,n_,n_,n_,n_,n_] rfl rfl (any_of HT_.out (by kernel_rfl)) (fun _ _ _ h => h) (Or.inl ⟨by rfl, ?_⟩) ?_ ?_
            rotate_left
            ·intro w'; go_simp; with_reducible rfl
            rotate_left
            ·simp only [Act.put, List.setIfInBounds_toArray, List.set_cons_zero, List.set_cons_succ, i64_w, i32_w]; rfl
            refine pure_ (i := 13) (N := some 30) (v := ?_) (a' := ?_) #[y_,y_,y_,y_,y_,y_,y_,y_,n_,n_,n_,n_,y_,y_,n_,n_,n_,n_,n_,n_,n_] rfl rfl (any_of HT_.out (by kernel_rfl)) (fun _ _ _ h => h) (Or.inl ⟨by rfl, ?_⟩) ?_ ?_
            rotate_left
            ·intro w'; go_simp; with_reducible rfl
            rotate_left
            ·simp only [Act.put, List.setIfInBounds_toArray, List.set_cons_zero, List.set_cons_succ, i64_w, i32_w]; rfl
            refine pure_ (i := 14) (N := some 31) (v := ?_) (a' := ?_) #[y_,y_,y_,y_,y_,y_,y_,y_,n_,n_,n_,n_,y_,y_,y_,n_,n_,n_,n_,n_,n_] rfl rfl (any_of HT_.out (by kernel_rfl)) (fun _ _ _ h => h) (Or.inl ⟨by rfl, ?_⟩) ?_ ?_
            rotate_left
            ·intro w'; go_simp; with_reducible rfl
            rotate_left
            ·simp only [Act.put, List.setIfInBounds_toArray, List.set_cons_zero, List.set_cons_succ, i64_w, i32_w]; rfl
            refine pure_ (i := 15) (N := some 32) (v := ?_) (a' := ?_) #[y_,y_,y_,y_,y_,y_,y_,y_,n_,n_,n_,n_,y_,y_,y_,y_,n_,n_,n_,n_,n_] rfl rfl (any_of HT_.out (by kernel_rfl)) (fun _ _ _ h => h) (Or.inl ⟨by rfl, ?_⟩) ?_ ?_
            rotate_left
            ·intro w'; go_simp; with_reducible rfl
            rotate_left
            ·simp only [Act.put, List.setIfInBounds_toArray, List.set_cons_zero, List.set_cons_succ, i64_w, i32_w]; rfl
            refine take_ (i := 8) (N := some 25) (v := ?_) (a' := ?_) #[y_,y_,y_,y_,y_,y_,y_,y_,y_,n_,n_,n_,y_,y_,y_,y_,n_,n_,n_,n_,n_] rfl rfl (take_ofW HT_.out HW_.out (by kernel_rfl)) (fun _ _ _ h => h) (Or.inl ⟨by rfl, ?_⟩) hHeld ?_ ?_
            rotate_left
            ·rintro w' ⟨s0, s1, s2, s3⟩; go_simp; with_reducible rfl
            rotate_left
            ·simp only [Act.put, List.setIfInBounds_toArray, List.set_cons_zero, List.set_cons_succ, i64_w, i32_w]; rfl
            refine take_ (i := 16) (N := some 33) (v := ?_) (a' := ?_) #[y_,y_,y_,y_,y_,y_,y_,y_,y_,n_,n_,n_,y_,y_,y_,y_,y_,n_,n_,n_,n_] rfl rfl (take_ofW HT_.out HW_.out (by kernel_rfl)) (fun _ _ _ h => h) (Or.inl ⟨by rfl, ?_⟩) hHeld ?_ ?_
            rotate_left
            ·rintro w' ⟨s0, s1, s2, s3⟩; go_simp; with_reducible rfl
            rotate_left
            ·simp only [Act.put, List.setIfInBounds_toArray, List.set_cons_zero, List.set_cons_succ, i64_w, i32_w]; rfl
            refine one_ (i := 9) (N := some 26) #[y_,y_,y_,y_,y_,y_,y_,y_,y_,y_,n_,n_,y_,y_,y_,y_,y_,n_,n_,n_,n_] rfl rfl (one_of HT_.out (by kernel_rfl)) (by decide) (fun K hK => ?_); refine goes_ Tryd.func55 (by kernel_rfl) rfl #[.int .i64 ((rd_T35 t101 x5_1).f0)] (by rfl) rfl rfl bM ?_
            with_reducible refine (spec_l6Dec.calls k1 ((rd_T35 t101 x5_1).f0) t109 _ A22.out).mono ?_
            rintro e w30 ⟨rfl, hb⟩; have HS0_ := (hb.cell (World.block_lt_of_cell? _ _ (hHeld.1))).trans (hHeld.1); have HS1_ := (hb.cell (World.block_lt_of_cell? _ _ (hHeld.2.1))).trans (hHeld.2.1); have HS2_ := (hb.cell (World.block_lt_of_cell? _ _ (hHeld.2.2.1))).trans (hHeld.2.2.1); have HS3_ := (hb.cell (World.block_lt_of_cell? _ _ (hHeld.2.2.2))).trans (hHeld.2.2.2); refine ⟨_, rfl, ?_⟩; have n0_ := Aside0.mk (Kd.R_below (bR HO_3) hb); have n1_ := Aside0.mk (below_step (bC0 HB) hb); clear HO_3; clear HB; have HO_3 := n0_; have HB := n1_; clear n0_ n1_; (try clear hb); (try clear hb2); (try clear hk); (try clear hi); refine hK.out _ _ ⟨HS0_, HS1_, HS2_, HS3_⟩ (fun hHeld => ?_); clear hK K; refine norm_ (a' := ?_) ?_ ?_
            rotate_left
            ·show Act.put _ (some 26) _ = _
             simp only [Act.put, List.setIfInBounds_toArray, List.set_cons_zero, List.set_cons_succ, i64_w, i32_w]; rfl
            refine pure_ (i := 10) (N := some 27) (v := ?_) (a' := ?_) #[y_,y_,y_,y_,y_,y_,y_,y_,y_,y_,y_,n_,y_,y_,y_,y_,y_,n_,n_,n_,n_] rfl rfl (any_of HT_.out (by kernel_rfl)) (fun _ _ _ h => h) (Or.inl ⟨by rfl, ?_⟩) ?_ ?_
            rotate_left
            ·intro w'; go_simp; with_reducible rfl
            rotate_left
            ·simp only [Act.put, List.setIfInBounds_toArray, List.set_cons_zero, List.set_cons_succ, i64_w, i32_w]; rfl
            refine pure_ (i := 11) (N := some 28) (v := ?_) (a' := ?_) #[y_,y_,y_,y_,y_,y_,y_,y_,y_,y_,y_,y_,y_,y_,y_,y_,y_,n_,n_,n_,n_] rfl rfl (any_of HT_.out (by kernel_rfl)) (fun _ _ _ h => h) (Or.inl ⟨by rfl, ?_⟩) ?_ ?_
            rotate_left
            ·intro w'; go_simp; with_reducible rfl
            rotate_left
            ·simp only [Act.put, List.setIfInBounds_toArray, List.set_cons_zero, List.set_cons_succ, i64_w, i32_w]; rfl
            refine one_ (i := 17) (N := some 34) #[y_,y_,y_,y_,y_,y_,y_,y_,y_,y_,y_,y_,y_,y_,y_,y_,y_,y_,n_,n_,n_] rfl rfl (one_of HT_.out (by kernel_rfl)) (by decide) (fun K hK => ?_); refine goes_ Tryd.func55 (by kernel_rfl) rfl #[.int .i64 ((rd_T35 t101 x5_1).f1)] (by rfl) rfl rfl bM ?_
            with_reducible refine (spec_l6Dec.calls k1 ((rd_T35 t101 x5_1).f1) t111 _ A25.out).mono ?_
            rintro e w31 ⟨rfl, hb⟩; have HS0_ := (hb.cell (World.block_lt_of_cell? _ _ (hHeld.1))).trans (hHeld.1); have HS1_ := (hb.cell (World.block_lt_of_cell? _ _ (hHeld.2.1))).trans (hHeld.2.1); have HS2_ := (hb.cell (World.block_lt_of_cell? _ _ (hHeld.2.2.1))).trans (hHeld.2.2.1); have HS3_ := (hb.cell (World.block_lt_of_cell? _ _ (hHeld.2.2.2))).trans (hHeld.2.2.2); refine ⟨_, rfl, ?_⟩; have n0_ := Aside0.mk (Kd.R_below (bR HO_3) hb); have n1_ := Aside0.mk (below_step (bC0 HB) hb); clear HO_3; clear HB; have HO_3 := n0_; have HB := n1_; clear n0_ n1_; (try clear hb); (try clear hb2); (try clear hk); (try clear hi); refine hK.out _ _ ⟨HS0_, HS1_, HS2_, HS3_⟩ (fun hHeld => ?_); clear hK K; refine norm_ (a' := ?_) ?_ ?_
            rotate_left
            ·show Act.put _ (some 34) _ = _
             simp only [Act.put, List.setIfInBounds_toArray, List.set_cons_zero, List.set_cons_succ, i64_w, i32_w]; rfl
            refine pure_ (i := 18) (N := some 35) (v := ?_) (a' := ?_) #[y_,y_,y_,y_,y_,y_,y_,y_,y_,y_,y_,y_,y_,y_,y_,y_,y_,y_,y_,n_,n_] rfl rfl (any_of HT_.out (by kernel_rfl)) (fun _ _ _ h => h) (Or.inl ⟨by rfl, ?_⟩) ?_ ?_
            rotate_left
            ·intro w'; go_simp; with_reducible rfl
            rotate_left
            ·simp only [Act.put, List.setIfInBounds_toArray, List.set_cons_zero, List.set_cons_succ, i64_w, i32_w]; rfl
            refine pure_ (i := 19) (N := some 36) (v := ?_) (a' := ?_) #[y_,y_,y_,y_,y_,y_,y_,y_,y_,y_,y_,y_,y_,y_,y_,y_,y_,y_,y_,y_,n_] rfl rfl (any_of HT_.out (by kernel_rfl)) (fun _ _ _ h => h) (Or.inl ⟨by rfl, ?_⟩) ?_ ?_
            rotate_left
            ·intro w'; go_simp; with_reducible rfl
            rotate_left
            ·simp only [Act.put, List.setIfInBounds_toArray, List.set_cons_zero, List.set_cons_succ, i64_w, i32_w]; rfl
            refine pure_ (i := 20) (N := some 4) (v := ?_) (a' := ?_) #[y_,y_,y_,y_,y_,y_,y_,y_,y_,y_,y_,y_,y_,y_,y_,y_,y_,y_,y_,y_,y_] rfl rfl (any_of HT_.out (by kernel_rfl)) (fun _ _ _ h => h) (Or.inl ⟨by rfl, ?_⟩) ?_ ?_
            rotate_left
            ·intro w'; go_simp; with_reducible rfl
            rotate_left
            ·simp only [Act.put, List.setIfInBounds_toArray, List.set_cons_zero, List.set_cons_succ, i64_w, i32_w]; rfl
            refine done_ (done_of HT_.out (by kernel_rfl)) ?_
            try go_wp2
            go_roundg k1
            case measure => have := HK1.out; omega
            case rel => exact ⟨((((((x4_1 ++ (⟨#[71, 49]⟩ : ByteArray)) ++ (⟨#[32, 88]⟩ : ByteArray)) ++ t109) ++ (⟨#[32, 89]⟩ : ByteArray)) ++ t111) ++ (⟨#[10]⟩ : ByteArray)), (wrap64 (x5_1 + 1)), (by first | rfl | (simp; done) | (simp [*]; done)), (by first | rfl | (simp; done) | (simp [*]; done)), H', ⟨by have := HK1.out; omega⟩, ⟨by (with_reducible repeat (first | apply Kd.R_alloc | apply Kd.R_drewN | apply Kd.R_drew)); exact HO_3.out⟩, ⟨(bC0 HB)⟩⟩
           ·rw [if_neg c27] at H; exact absurd H (by simp)
          ·rw [if_neg c26] at H; exact absurd H (by simp)
         ·rw [if_neg c24] at H; exact absurd H (by simp)
        ·rw [if_neg c23] at H; exact absurd H (by simp)
       ·rw [if_neg c21] at H; exact absurd H (by simp)
      ·rw [if_neg c20] at H; exact absurd H (by simp)
     ·rw [if_neg c19] at H; exact absurd H (by simp)
   ·rw [if_neg c4] at H
    have c4b0 : decide (x5_1 < (t101.length : Int)) = false := decide_eq_false c4; clear c4; obtain rfl := Option.some.inj H; obtain ⟨Ao32, co32, eo32⟩ := Kd.R_slice HO_3.out; subst eo32; go_wp2; go_ret
    exact ⟨bE, (bC0 HB)⟩
set_option linter.unusedVariables false
set_option linter.unusedSimpArgs false
def spec_PtOk.f (a0_0 : Int) (a0_1 : Int) : Option (Bool) := (spec_l6In.f a0_0 0 9).bind fun t102 => (if t102 = true then ((spec_l6In.f a0_1 0 9).bind fun t103 => (some t103)) else (some false))
set_option maxHeartbeats 8000000 in
set_option maxRecDepth 100000 in
theorem spec_PtOk.calls (a0_0 : Int) (a0_1 : Int) (r : Bool) (w : World) (h : spec_PtOk.f a0_0 a0_1 = some r) :
  Calls Tryd.prog 52 #[.agg #[.int .i64 a0_0, .int .i64 a0_1]] w fun e w' => e = .returned (.bool r) ∧ Below w.heap.size w w' := by
 have hu35 := Tryd.underlying35; have HB := Aside0.mk (Below.refl w.heap.size w); have H : ((spec_l6In.f a0_0 0 9).bind fun t102 => (if t102 = true then ((spec_l6In.f a0_1 0 9).bind fun t103 => (some t103)) else (some false))) = some r := h; clear h; replace H := Option.bind_eq_some_iff.mp H; obtain ⟨t102, A20, H⟩ := H; replace H : (if t102 = true then ((spec_l6In.f a0_1 0 9).bind fun t103 => (some t103)) else (some false)) = some r := H; have A2 := Aside0.mk A20; clear A20
 by_cases c3 : t102 = true
 ·subst c3
  have H1 : ((spec_l6In.f a0_1 0 9).bind fun t103 => (some t103)) = some r := by rw [if_pos rfl] at H; exact H
  clear H; have H := H1; clear H1; replace H := Option.bind_eq_some_iff.mp H; obtain ⟨t103, A40, H⟩ := H; replace H : (some t103) = some r := H; have A4 := Aside0.mk A40; clear A40; obtain rfl := Option.some.inj H; go_enter Tryd.func52, Tryd.ntmps52; go_wp2_with (first | ((with_reducible refine gate_dst (N := 1) rfl ?_); refine box_event ?hg (N := 1) ?hd (cs := #[.int .i64 a0_0, .int .i64 a0_1]) (t := 35) ?hr ?_; (case hd => rfl); (case hg => rfl); (case hr => first | (go_simp; done) | (go_simp; rfl)); intro gb101 hg w5 hbox hb; have n0_ := Aside0.mk (below_step (bC0 HB) hb); have n1_ := Aside0.mk (hbox); have n2_ := Aside0.mk ((by rw [hg]; exact (below_size (bC0 HB)) : w.heap.size ≤ gb101)); have n3_ := Aside0.mk ((by rw [hg]; exact (below_size (bC0 HB)) : w.heap.size ≤ gb101)); clear HB; have HB := n0_; have BK101 := n1_; have GW101 := n2_; have GE101 := n3_; clear n0_ n1_ n2_ n3_; clear hb hbox hg; have hcz6_0 : w5.cell? ⟨gb101, 0, none⟩ = some (.int .i64 a0_0) := (blk_cell BK101.out 0).trans rfl; have hcz6_1 : w5.cell? ⟨gb101, 1, none⟩ = some (.int .i64 a0_1) := (blk_cell BK101.out 1).trans rfl; have hfz6_0 := blk_frozen BK101.out 0; have hfz6_1 := blk_frozen BK101.out 1) | ((with_reducible refine gate_callee (f := 50) rfl ?_); refine goesL_ (some 5) rfl rfl Tryd.func50 (by kernel_rfl) rfl #[.int .i64 a0_0, .int .i64 0, .int .i64 9] rfl bM ?_; (with_reducible refine (spec_l6In.calls a0_0 0 9 true _ A2.out).mono ?_); rintro e w' ⟨rfl, ⟨nd, rfl⟩⟩; refine ⟨_, rfl, ?_⟩) | (go_at_call 50; (with_reducible refine (spec_l6In.calls a0_1 0 9 t103 _ A4.out).mono ?_); rintro e w' ⟨rfl, ⟨nd, rfl⟩⟩)); go_ret
  exact ⟨bE, (bC1 HB GE101.out)⟩
 ·replace c3 := Bool.eq_false_iff.mpr c3
  subst c3
  have H1 : (some false) = some r := by rw [if_neg (show ¬ (false = true) by decide)] at H; exact H
  clear H; have H := H1; clear H1; obtain rfl := Option.some.inj H; go_enter Tryd.func52, Tryd.ntmps52; go_wp2_with (first | ((with_reducible refine gate_dst (N := 1) rfl ?_); refine box_event ?hg (N := 1) ?hd (cs := #[.int .i64 a0_0, .int .i64 a0_1]) (t := 35) ?hr ?_; (case hd => rfl); (case hg => rfl); (case hr => first | (go_simp; done) | (go_simp; rfl)); intro gb101 hg w7 hbox hb; have n0_ := Aside0.mk (below_step (bC0 HB) hb); have n1_ := Aside0.mk (hbox); have n2_ := Aside0.mk ((by rw [hg]; exact (below_size (bC0 HB)) : w.heap.size ≤ gb101)); have n3_ := Aside0.mk ((by rw [hg]; exact (below_size (bC0 HB)) : w.heap.size ≤ gb101)); clear HB; have HB := n0_; have BK101 := n1_; have GW101 := n2_; have GE101 := n3_; clear n0_ n1_ n2_ n3_; clear hb hbox hg; have hcz8_0 : w7.cell? ⟨gb101, 0, none⟩ = some (.int .i64 a0_0) := (blk_cell BK101.out 0).trans rfl; have hcz8_1 : w7.cell? ⟨gb101, 1, none⟩ = some (.int .i64 a0_1) := (blk_cell BK101.out 1).trans rfl; have hfz8_0 := blk_frozen BK101.out 0; have hfz8_1 := blk_frozen BK101.out 1) | ((with_reducible refine gate_callee (f := 50) rfl ?_); refine goesL_ (some 5) rfl rfl Tryd.func50 (by kernel_rfl) rfl #[.int .i64 a0_0, .int .i64 0, .int .i64 9] rfl bM ?_; (with_reducible refine (spec_l6In.calls a0_0 0 9 false _ A2.out).mono ?_); rintro e w' ⟨rfl, ⟨nd, rfl⟩⟩; refine ⟨_, rfl, ?_⟩)); go_ret
  exact ⟨bE, (bC1 HB GE101.out)⟩
set_option linter.unusedVariables false
set_option linter.unusedSimpArgs false
def spec_l2Sign.f (a0 : Int) : Option (Int) := if a0 < 0 then (some (-1)) else (if a0 > 0 then (some 1) else (some 0))
set_option maxHeartbeats 8000000 in
set_option maxRecDepth 100000 in
theorem spec_l2Sign.calls (a0 : Int) (r : Int) (w : World) (h : spec_l2Sign.f a0 = some r) :
    Calls Tryd.prog 58 #[.int .i64 a0] w fun e w' => e = .returned (.int .i64 r) ∧ Drawn0 w w' := by
  have H : (if a0 < 0 then (some (-1)) else (if a0 > 0 then (some 1) else (some 0))) = some r := h
  clear h
  by_cases c2 : a0 < 0
  · rw [if_pos c2] at H
    have c2b0 : decide (a0 < 0) = true := decide_eq_true c2
    clear c2
    obtain rfl := Option.some.inj H
    go_enter Tryd.func58, Tryd.ntmps58
    go_wp2
    go_ret
    exact ⟨by first | rfl | (simp; done) | (simp [*]; done), (by repeat (first | exact Drawn0.refl _ | apply Drawn0.step))⟩
  · rw [if_neg c2] at H
    have c2b0 : decide (a0 < 0) = false := decide_eq_false c2
    clear c2
    by_cases c3 : a0 > 0
    · rw [if_pos c3] at H
      have c3b0 : decide (0 < a0) = true := decide_eq_true c3
      clear c3
      obtain rfl := Option.some.inj H
      go_enter Tryd.func58, Tryd.ntmps58
      go_wp2
      go_ret
      exact ⟨by first | rfl | (simp; done) | (simp [*]; done), (by repeat (first | exact Drawn0.refl _ | apply Drawn0.step))⟩
    · rw [if_neg c3] at H
      have c3b0 : decide (0 < a0) = false := decide_eq_false c3
      clear c3
      obtain rfl := Option.some.inj H
      go_enter Tryd.func58, Tryd.ntmps58
      go_wp2
      go_ret
      exact ⟨by first | rfl | (simp; done) | (simp [*]; done), (by repeat (first | exact Drawn0.refl _ | apply Drawn0.step))⟩
set_option linter.unusedVariables false
set_option linter.unusedSimpArgs false
attribute [local go_sem high] eqA35
mutual
def spec_l22Stay.j0 : Nat → List (S35) → Bool → Option ((List (S35)) × Bool)
  | 0, _, _ => none
  | k + 1, x0, x18 => if x18 = true then (some ((([] : List (S35))), false)) else (if 0 < (x0.length : Int) then (spec_l22Stay.l0 k x0 (([(⟨(rd_T35 x0 0).f0, (rd_T35 x0 0).f1⟩ : S35)] : List (S35))) 1) else (none))
def spec_l22Stay.l0 : Nat → List (S35) → List (S35) → Int → Option ((List (S35)) × Bool)
  | 0, _, _, _ => none
  | k + 1, x0, x4, x5 => if x5 < (x0.length : Int) then (if 0 ≤ x5 then (if 0 ≤ (wrap64 (x5 - 1)) then (if (wrap64 (x5 - 1)) < (x0.length : Int) then ((spec_PtOk.f ((rd_T35 x0 x5).f0) ((rd_T35 x0 x5).f1)).bind fun t118 => (if t118 = true then (if (((rd_T35 x0 x5).f0) == ((rd_T35 x0 (wrap64 (x5 - 1))).f0) && (((rd_T35 x0 x5).f1) == ((rd_T35 x0 (wrap64 (x5 - 1))).f1))) = true then (spec_l22Stay.j2 k x0 x4 x5 true ((rd_T35 x0 x5).f0) ((rd_T35 x0 x5).f1) ((rd_T35 x0 (wrap64 (x5 - 1))).f0) ((rd_T35 x0 (wrap64 (x5 - 1))).f1)) else (if ((rd_T35 x0 x5).f0) = ((rd_T35 x0 (wrap64 (x5 - 1))).f0) then (spec_l22Stay.j2 k x0 x4 x5 false ((rd_T35 x0 x5).f0) ((rd_T35 x0 x5).f1) ((rd_T35 x0 (wrap64 (x5 - 1))).f0) ((rd_T35 x0 (wrap64 (x5 - 1))).f1)) else (spec_l22Stay.j2 k x0 x4 x5 (((rd_T35 x0 x5).f1) != ((rd_T35 x0 (wrap64 (x5 - 1))).f1)) ((rd_T35 x0 x5).f0) ((rd_T35 x0 x5).f1) ((rd_T35 x0 (wrap64 (x5 - 1))).f0) ((rd_T35 x0 (wrap64 (x5 - 1))).f1)))) else (spec_l22Stay.j2 k x0 x4 x5 true ((rd_T35 x0 x5).f0) ((rd_T35 x0 x5).f1) ((rd_T35 x0 (wrap64 (x5 - 1))).f0) ((rd_T35 x0 (wrap64 (x5 - 1))).f1)))) else (none)) else (none)) else (none)) else (if (x4.length : Int) > 400 then (some ((([] : List (S35))), false)) else (some (x4, true)))
def spec_l22Stay.j2 : Nat → List (S35) → List (S35) → Int → Bool → Int → Int → Int → Int → Option ((List (S35)) × Bool)
  | 0, _, _, _, _, _, _, _, _ => none
  | k + 1, x0, x4, x5, x60, x116000, x116001, x118000, x118001 => if x60 = true then (some ((([] : List (S35))), false)) else (spec_l22Stay.l1 k x0 x4 x5 x116000 x116001 x118000 x118001)
def spec_l22Stay.l1 : Nat → List (S35) → List (S35) → Int → Int → Int → Int → Int → Option ((List (S35)) × Bool)
  | 0, _, _, _, _, _, _, _ => none
  | k + 1, x0, x4, x5, x116000, x116001, x118000, x118001 => if (!(x118000 == x116000) || (!(x118001 == x116001))) = true then ((spec_l2Sign.f (wrap64 (x116000 - x118000))).bind fun t122 => ((spec_l2Sign.f (wrap64 (x116001 - x118001))).bind fun t123 => (if x4.length < 8796093022208 then (spec_l22Stay.l1 k x0 (x4 ++ [(⟨wrap64 (x118000 + t122), wrap64 (x118001 + t123)⟩ : S35)]) x5 x116000 x116001 (wrap64 (x118000 + t122)) (wrap64 (x118001 + t123))) else (none)))) else (spec_l22Stay.l0 k x0 x4 (wrap64 (x5 + 1)))
end
def spec_l22Stay.f (k : Nat) (l0 : List (S35)) : Option ((List (S35)) × Bool) := (spec_l6In.f (l0.length : Int) 1 400).bind fun t101 => (if t101 = true then (if 0 < (l0.length : Int) then ((spec_PtOk.f ((rd_T35 l0 0).f0) ((rd_T35 l0 0).f1)).bind fun t103 => (spec_l22Stay.j0 k l0 (!t103))) else (none)) else (spec_l22Stay.j0 k l0 true))
theorem spec_l22Stay.mono_l : ∀ k, (∀ y0 y1, LeO (spec_l22Stay.j0 k y0 y1) (spec_l22Stay.j0 (k + 1) y0 y1)) ∧ (∀ y0 y1 y2, LeO (spec_l22Stay.l0 k y0 y1 y2) (spec_l22Stay.l0 (k + 1) y0 y1 y2)) ∧ (∀ y0 y1 y2 y3 y4 y5 y6 y7, LeO (spec_l22Stay.j2 k y0 y1 y2 y3 y4 y5 y6 y7) (spec_l22Stay.j2 (k + 1) y0 y1 y2 y3 y4 y5 y6 y7)) ∧ (∀ y0 y1 y2 y3 y4 y5 y6, LeO (spec_l22Stay.l1 k y0 y1 y2 y3 y4 y5 y6) (spec_l22Stay.l1 (k + 1) y0 y1 y2 y3 y4 y5 y6))
  | 0 => ⟨fun _ _ r h => by simp [spec_l22Stay.j0] at h, fun _ _ _ r h => by simp [spec_l22Stay.l0] at h, fun _ _ _ _ _ _ _ _ r h => by simp [spec_l22Stay.j2] at h, fun _ _ _ _ _ _ _ r h => by simp [spec_l22Stay.l1] at h⟩
  | k + 1 => by
    obtain ⟨ih0, ih1, ih2, ih3⟩ := spec_l22Stay.mono_l k
    refine ⟨?_, ?_, ?_, ?_⟩
    · intro y0 y1
      unfold spec_l22Stay.j0
      repeat' first
      | (with_reducible exact ih0 _ _)
      | (with_reducible exact ih1 _ _ _)
      | (with_reducible exact ih2 _ _ _ _ _ _ _ _)
      | (with_reducible exact ih3 _ _ _ _ _ _ _)
      | (with_reducible exact LeO.refl _)
      | (with_reducible exact LeO.none _)
      | (with_reducible refine LeO.ite ?_ ?_)
      | (with_reducible refine LeO.bind ?_ (fun _ => ?_))
      | exact ih0 _ _
      | exact ih1 _ _ _
      | exact ih2 _ _ _ _ _ _ _ _
      | exact ih3 _ _ _ _ _ _ _
      | exact LeO.none _
      | refine LeO.ite ?_ ?_
      | refine LeO.bind ?_ (fun _ => ?_)
    · intro y0 y1 y2
      unfold spec_l22Stay.l0
      repeat' first
      | (with_reducible exact ih0 _ _)
      | (with_reducible exact ih1 _ _ _)
      | (with_reducible exact ih2 _ _ _ _ _ _ _ _)
      | (with_reducible exact ih3 _ _ _ _ _ _ _)
      | (with_reducible exact LeO.refl _)
      | (with_reducible exact LeO.none _)
      | (with_reducible refine LeO.ite ?_ ?_)
      | (with_reducible refine LeO.bind ?_ (fun _ => ?_))
      | exact ih0 _ _
      | exact ih1 _ _ _
      | exact ih2 _ _ _ _ _ _ _ _
      | exact ih3 _ _ _ _ _ _ _
      | exact LeO.none _
      | refine LeO.ite ?_ ?_
      | refine LeO.bind ?_ (fun _ => ?_)
    · intro y0 y1 y2 y3 y4 y5 y6 y7
      unfold spec_l22Stay.j2
      repeat' first
      | (with_reducible exact ih0 _ _)
      | (with_reducible exact ih1 _ _ _)
      | (with_reducible exact ih2 _ _ _ _ _ _ _ _)
      | (with_reducible exact ih3 _ _ _ _ _ _ _)
      | (with_reducible exact LeO.refl _)
      | (with_reducible exact LeO.none _)
      | (with_reducible refine LeO.ite ?_ ?_)
      | (with_reducible refine LeO.bind ?_ (fun _ => ?_))
      | exact ih0 _ _
      | exact ih1 _ _ _
      | exact ih2 _ _ _ _ _ _ _ _
      | exact ih3 _ _ _ _ _ _ _
      | exact LeO.none _
      | refine LeO.ite ?_ ?_
      | refine LeO.bind ?_ (fun _ => ?_)
    · intro y0 y1 y2 y3 y4 y5 y6
      unfold spec_l22Stay.l1
      repeat' first
      | (with_reducible exact ih0 _ _)
      | (with_reducible exact ih1 _ _ _)
      | (with_reducible exact ih2 _ _ _ _ _ _ _ _)
      | (with_reducible exact ih3 _ _ _ _ _ _ _)
      | (with_reducible exact LeO.refl _)
      | (with_reducible exact LeO.none _)
      | (with_reducible refine LeO.ite ?_ ?_)
      | (with_reducible refine LeO.bind ?_ (fun _ => ?_))
      | exact ih0 _ _
      | exact ih1 _ _ _
      | exact ih2 _ _ _ _ _ _ _ _
      | exact ih3 _ _ _ _ _ _ _
      | exact LeO.none _
      | refine LeO.ite ?_ ?_
      | refine LeO.bind ?_ (fun _ => ?_)
theorem spec_l22Stay.mono : ∀ a0 k, LeO (spec_l22Stay.f k a0) (spec_l22Stay.f (k + 1) a0) := by
  intro a0 k
  obtain ⟨ih0, ih1, ih2, ih3⟩ := spec_l22Stay.mono_l k
  unfold spec_l22Stay.f
  repeat' first
      | (with_reducible exact ih0 _ _)
      | (with_reducible exact ih1 _ _ _)
      | (with_reducible exact ih2 _ _ _ _ _ _ _ _)
      | (with_reducible exact ih3 _ _ _ _ _ _ _)
      | (with_reducible exact LeO.refl _)
      | (with_reducible exact LeO.none _)
      | (with_reducible refine LeO.ite ?_ ?_)
      | (with_reducible refine LeO.bind ?_ (fun _ => ?_))
      | exact ih0 _ _
      | exact ih1 _ _ _
      | exact ih2 _ _ _ _ _ _ _ _
      | exact ih3 _ _ _ _ _ _ _
      | exact LeO.none _
      | refine LeO.ite ?_ ?_
      | refine LeO.bind ?_ (fun _ => ?_)
def spec_l22Stay.T12 : Bool × List (List Nat × List Nat) := (true, [([], []), ([0], [0]), ([], []), ([2], [2]), ([], []), ([4], [4]), ([3, 5], [3, 5]), ([6], [6]), ([1, 7], [1, 7]), ([], []), ([9], [9]), ([], []), ([11], [11]), ([], []), ([13], [13]), ([12, 14], [12, 14]), ([15, 7], [15]), ([10, 16], [10, 16]), ([8, 17], [8, 17]), ([18, 16, 0, 1, 2, 3, 4, 5, 6, 7, 8, 9, 10, 11, 12, 13, 14, 15, 16, 17, 18], [18])])
def spec_l22Stay.B12 : List Nat := [0, 1, 0, 4, 0, 16, 60, 124, 255, 0, 512, 0, 2048, 0, 8192, 30720, 63740, 130812, 262143, 524287]
theorem spec_l22Stay.tab12 : rtab .any (opsOf Tryd.f39 12) = spec_l22Stay.T12 := by kernel_rfl
theorem spec_l22Stay.bits12 : waitsOk spec_l22Stay.T12.2 spec_l22Stay.B12 = true := by kernel_rfl
set_option maxHeartbeats 8000000 in
set_option maxRecDepth 100000 in
theorem spec_l22Stay.calls (k : Nat) (A0 : Option Addr) (c0 : Nat) (l0 : List (S35)) (r1 : List (S35)) (r2 : Bool) (w : World) (hr0 : Kd.C k35 w A0 l0.length l0) (hc0 : l0.length ≤ c0) (h : spec_l22Stay.f k l0 = some (r1, r2)) :
  Calls Tryd.prog 39 #[.slice A0 l0.length c0] w fun e w' => ∃ v0_ : Value, e = .returned (.tuple #[v0_, .bool r2]) ∧ Kd.R k35 35 w' w.heap.size (fun _ => True) v0_ r1 ∧ Below w.heap.size w w' := by
 have hu35 := Tryd.underlying35; have HR0 := Aside0.mk hr0; have HC0 := Aside0.mk hc0; clear hr0 hc0; have HB := Aside0.mk (Below.refl w.heap.size w); have H : ((spec_l6In.f (l0.length : Int) 1 400).bind fun t101 => (if t101 = true then (if 0 < (l0.length : Int) then ((spec_PtOk.f ((rd_T35 l0 0).f0) ((rd_T35 l0 0).f1)).bind fun t103 => (spec_l22Stay.j0 k l0 (!t103))) else (none)) else (spec_l22Stay.j0 k l0 true))) = some (r1, r2) := h; clear h; have HC2 := Aside0.mk H; clear H; go_enter Tryd.func39, Tryd.ntmps39; go_upto_region 1 with (fail); go_cut [18] (fun v18 wc => ∃ (kq : Nat) (x18_1 : Bool), v18 = .bool x18_1 ∧ Aside0 (spec_l22Stay.j0 kq l0 x18_1 = some (r1, r2)) ∧ Aside0 (kq ≤ k) ∧ Aside0 (Below w.heap.size w wc))
 case first =>
  have H := HC2.out; clear HC2; replace H := Option.bind_eq_some_iff.mp H; obtain ⟨t101, A30, H⟩ := H; replace H : (if t101 = true then (if 0 < (l0.length : Int) then ((spec_PtOk.f ((rd_T35 l0 0).f0) ((rd_T35 l0 0).f1)).bind fun t103 => (spec_l22Stay.j0 k l0 (!t103))) else (none)) else (spec_l22Stay.j0 k l0 true)) = some (r1, r2) := H; have A3 := Aside0.mk A30; clear A30
  by_cases c4 : t101 = true
  ·subst c4
   have H1 : (if 0 < (l0.length : Int) then ((spec_PtOk.f ((rd_T35 l0 0).f0) ((rd_T35 l0 0).f1)).bind fun t103 => (spec_l22Stay.j0 k l0 (!t103))) else (none)) = some (r1, r2) := by rw [if_pos rfl] at H; exact H
   clear H; have H := H1; clear H1
   by_cases c5 : 0 < (l0.length : Int)
   ·rw [if_pos c5] at H
    have c5b0 : decide (0 < (l0.length : Int)) = true := decide_eq_true c5; have c5b1 : decide (0 < l0.length) = true := decide_eq_true (by omega); clear c5; (first | rw [c5b0] | (simp only [i64_w, i32_w]; rw [c5b0]) | skip); replace H := Option.bind_eq_some_iff.mp H; obtain ⟨t103, A60, H⟩ := H; replace H : (spec_l22Stay.j0 k l0 (!t103)) = some (r1, r2) := H; have A6 := Aside0.mk A60; clear A60; have H' := Aside0.mk H; clear H; go_wp2_with (first | ((with_reducible refine gate_callee (f := 50) rfl ?_); refine goesL_ (some 10) rfl rfl Tryd.func50 (by kernel_rfl) rfl #[.int .i64 (l0.length : Int), .int .i64 1, .int .i64 400] rfl bM ?_; (with_reducible refine (spec_l6In.calls (l0.length : Int) 1 400 true _ A3.out).mono ?_); rintro e w' ⟨rfl, ⟨nd, rfl⟩⟩; refine ⟨_, rfl, ?_⟩; have p102 : 0 ≤ (0 : Int) := (by omega); have q102 : 0 < (l0.length : Int) := of_decide_eq_true bX; obtain ⟨ad102, e102, hx102_0, hx102_1⟩ := at_T35 HR0.out 0 p102 q102; cases e102; have qi102 : (0 < l0.length) = True := eq_true (by omega); (try rw [show ((0 : Int)).toNat = 0 from rfl] at hx102_0); (try rw [show 0 * 2 = 0 from rfl] at hx102_0); (try rw [Addr.add_zero'] at hx102_0); (try rw [show ((0 : Int)).toNat = 0 from rfl] at hx102_1); (try rw [show 0 * 2 = 0 from rfl] at hx102_1); (try rw [Addr.add_zero'] at hx102_1); replace hx102_0 := (HB.out.cell (World.block_lt_of_cell? w _ hx102_0)).trans hx102_0; replace hx102_1 := (HB.out.cell (World.block_lt_of_cell? w _ hx102_1)).trans hx102_1; replace p102 := eq_true p102; replace q102 := eq_true q102) | (go_at_call 52; (with_reducible refine (spec_PtOk.calls ((rd_T35 l0 0).f0) ((rd_T35 l0 0).f1) t103 _ A6.out).mono ?_); rintro e w7 ⟨rfl, hb⟩; have n0_ := Aside0.mk (below_step (bC0 HB) hb); clear HB; have HB := n0_; clear n0_; (try clear hb); (try clear hb2); (try clear hk); (try clear hi))); go_meet
    case rel => exact ⟨_, (!t103), (by first | rfl | (simp; done) | (simp [*]; done)), H', ⟨by first | omega | exact Nat.le_refl _⟩, ⟨(bC0 HB)⟩⟩
   ·rw [if_neg c5] at H; exact absurd H (by simp)
  ·replace c4 := Bool.eq_false_iff.mpr c4
   subst c4
   have H1 : (spec_l22Stay.j0 k l0 true) = some (r1, r2) := by rw [if_neg (show ¬ (false = true) by decide)] at H; exact H
   clear H; have H := H1; clear H1; have H' := Aside0.mk H; clear H; go_wp2_with (first | ((with_reducible refine gate_callee (f := 50) rfl ?_); refine goesL_ (some 10) rfl rfl Tryd.func50 (by kernel_rfl) rfl #[.int .i64 (l0.length : Int), .int .i64 1, .int .i64 400] rfl bM ?_; (with_reducible refine (spec_l6In.calls (l0.length : Int) 1 400 false _ A3.out).mono ?_); rintro e w' ⟨rfl, ⟨nd, rfl⟩⟩; refine ⟨_, rfl, ?_⟩)); go_meet
   case rel => exact ⟨_, (true), (by first | rfl | (simp; done) | (simp [*]; done)), H', ⟨by first | omega | exact Nat.le_refl _⟩, ⟨(bC0 HB)⟩⟩
 case rest =>
  clear HC2
  try clear p1
  try clear q1
  try clear hx1
  try clear qi1
  try clear p2
  try clear c3
  try clear c4
  try clear c5
  try clear c5b0
  try clear c5b1
  try clear hx102_0
  try clear hx102_1
  try clear p102
  try clear q102
  obtain ⟨kq, x18_1, rfl, HA, HJ1, HB⟩ := hcut
  cases kq with
  | zero => exact absurd HA.out (by simp [spec_l22Stay.j0])
  | succ kj1 =>
   have H := HA.out; clear HA; simp only [spec_l22Stay.j0] at H
   by_cases c8 : x18_1 = true
   ·subst c8
    have H1 : (some ((([] : List (S35))), false)) = some (r1, r2) := by rw [if_pos rfl] at H; exact H
    clear H; have H := H1; clear H1; obtain ⟨y104, hy104⟩ : ∃ y_ : List (S35), y_ = (([] : List (S35))) := ⟨_, rfl⟩
    replace H : (some (y104, false)) = some (r1, r2) := by first | (rw [hy104]; with_reducible exact H) | (have H2_ := (Option.bind_some _ _).symm.trans H; rw [hy104]; with_reducible exact H2_) | (have H2_ := (Option.bind_some _ _).symm.trans H; with_reducible exact H2_) | with_reducible exact H | (rw [hy104]; exact H) | exact H
    have Ny104 := Aside0.mk hy104; clear hy104; simp only [Option.some.injEq, Prod.mk.injEq] at H; obtain ⟨rfl, rfl⟩ := H; go_wp2_with (first | ((with_reducible refine gate_dst (N := 19) rfl ?_); refine Kd.R_lit k35 _ 35 ?hg (N := 19) ?hd (xs := ([] : List (S35))) (inner := []) (ok := fun _ => True) (okp := fun _ => True) ?hr ?hp (fun _ hk => hk) trivial (Below.refl _ _) (Nat.le_refl _) (by simp) ?_; (case hd => rfl); (case hg => rfl); (case hr => first | (go_simp; done) | (go_simp; rfl)); (case hp => exact (Reps.none _ _)); intro v105 w9 ho10 hb hg_ hnew_; clear hg_ hnew_; (first | rw [← Ny104.out] at ho10 | (simp only [Int.reduceToNat] at ho10; rw [← Ny104.out] at ho10)); have n0_ := Aside0.mk (Kd.R_lower ho10 (below_size (bC0 HB))); have n1_ := Aside0.mk (below_step (bC0 HB) hb); clear HB; have HO106 := n0_; have HB := n1_; clear n0_ n1_; clear hb ho10)); go_ret2
    exact ⟨_, bE, by (with_reducible repeat (first | apply Kd.R_alloc | apply Kd.R_drewN | apply Kd.R_drew)); exact HO106.out, (bC0 HB)⟩
   ·replace c8 := Bool.eq_false_iff.mpr c8
    subst c8
    have H1 : (if 0 < (l0.length : Int) then (spec_l22Stay.l0 kj1 l0 (([(⟨(rd_T35 l0 0).f0, (rd_T35 l0 0).f1⟩ : S35)] : List (S35))) 1) else (none)) = some (r1, r2) := by rw [if_neg (show ¬ (false = true) by decide)] at H; exact H
    clear H; have H := H1; clear H1
    by_cases c11 : 0 < (l0.length : Int)
    ·rw [if_pos c11] at H
     have c11b0 : decide (0 < (l0.length : Int)) = true := decide_eq_true c11; have c11b1 : decide (0 < l0.length) = true := decide_eq_true (by omega); clear c11; obtain ⟨y108, hy108⟩ : ∃ y_ : List (S35), y_ = (([(⟨(rd_T35 l0 0).f0, (rd_T35 l0 0).f1⟩ : S35)] : List (S35))) := ⟨_, rfl⟩
     replace H : (spec_l22Stay.l0 kj1 l0 y108 1) = some (r1, r2) := by first | (rw [hy108]; with_reducible exact H) | (have H2_ := (Option.bind_some _ _).symm.trans H; rw [hy108]; with_reducible exact H2_) | (have H2_ := (Option.bind_some _ _).symm.trans H; with_reducible exact H2_) | with_reducible exact H | (rw [hy108]; exact H) | exact H
     have Ny108 := Aside0.mk hy108; clear hy108; have H' := Aside0.mk H; clear H; have p107 : 0 ≤ (0 : Int) := (by omega); have q107 : 0 < (l0.length : Int) := of_decide_eq_true bX; obtain ⟨ad107, e107, hx107_0, hx107_1⟩ := at_T35 HR0.out 0 p107 q107
     cases e107
     have qi107 : (0 < l0.length) = True := eq_true (by omega); (try rw [show ((0 : Int)).toNat = 0 from rfl] at hx107_0); (try rw [show 0 * 2 = 0 from rfl] at hx107_0); (try rw [Addr.add_zero'] at hx107_0); (try rw [show ((0 : Int)).toNat = 0 from rfl] at hx107_1); (try rw [show 0 * 2 = 0 from rfl] at hx107_1); (try rw [Addr.add_zero'] at hx107_1); replace hx107_0 := (HB.out.cell (World.block_lt_of_cell? w _ hx107_0)).trans hx107_0; replace hx107_1 := (HB.out.cell (World.block_lt_of_cell? w _ hx107_1)).trans hx107_1; replace p107 := eq_true p107; replace q107 := eq_true q107; go_wp2_with (first | ((with_reducible refine gate_dst (N := 23) rfl ?_); refine Kd.R_lit k35 _ 35 ?hg (N := 23) ?hd (xs := ([(⟨(rd_T35 l0 0).f0, (rd_T35 l0 0).f1⟩ : S35)] : List (S35))) (inner := [.int .i64 ((rd_T35 l0 0).f0), .int .i64 ((rd_T35 l0 0).f1)]) (ok := fun _ => True) (okp := fun _ => True) ?hr ?hp (fun _ hk => hk) trivial (Below.refl _ _) (Nat.le_refl _) (by simp) ?_; (case hd => rfl); (case hg => rfl); (case hr => first | (go_simp; done) | (go_simp; rfl)); (case hp => exact (Reps.c2 (show Kd.M k35 _ _ _ (⟨(rd_T35 l0 0).f0, (rd_T35 l0 0).f1⟩ : S35) [.int .i64 ((rd_T35 l0 0).f0), .int .i64 ((rd_T35 l0 0).f1)] from (k35_mkM _ _ _ (⟨(rd_T35 l0 0).f0, (rd_T35 l0 0).f1⟩ : S35) )) (Reps.none _ _))); intro v109 w12 ho13 hb hg_ hnew_; clear hg_ hnew_; (first | rw [← Ny108.out] at ho13 | (simp only [Int.reduceToNat] at ho13; rw [← Ny108.out] at ho13)); have n0_ := Aside0.mk (Kd.R_lower ho13 (below_size (bC0 HB))); have n1_ := Aside0.mk (below_step (bC0 HB) hb); clear HB; have HO110 := n0_; have HB := n1_; clear n0_ n1_; clear hb ho13)); go_loopg [4, 5] kj1 (fun kq v4 v5 w' => ∃ (x4_2 : List (S35)) (x5_2 : Int), v5 = .int .i64 x5_2 ∧ Aside0 (spec_l22Stay.l0 kq l0 x4_2 x5_2 = some (r1, r2)) ∧ Aside0 (kq ≤ kj1) ∧ Aside0 (Kd.R k35 35 w' w.heap.size (fun _ => True) v4 x4_2) ∧ Aside0 (Below w.heap.size w w'))
     case atStart => exact ⟨(y108), (1), (by first | rfl | (simp; done) | (simp [*]; done)), H', ⟨Nat.le_refl _⟩, ⟨by (with_reducible repeat (first | apply Kd.R_alloc | apply Kd.R_drewN | apply Kd.R_drew)); exact HO110.out⟩, ⟨(bC0 HB)⟩⟩
     case round =>
      clear H'
      try clear c1
      try clear p1
      try clear q1
      try clear hx1
      try clear qi1
      try clear c2
      try clear p2
      try clear c3
      try clear c4
      try clear c5
      try clear c5b0
      try clear c5b1
      try clear c8
      try clear p10
      try clear q10
      try clear hx10
      try clear qi10
      try clear c11
      try clear c11b0
      try clear c11b1
      try clear hx102_0
      try clear hx102_1
      try clear hx107_0
      try clear hx107_1
      try clear p1
      try clear p102
      try clear p107
      try clear p2
      try clear q1
      try clear q102
      try clear q107
      obtain ⟨x4_2, x5_2, rfl, HA, HK2, HO_4, HB⟩ := hrel
      cases gk with
      | zero => exact absurd HA.out (by simp [spec_l22Stay.l0])
      | succ k2 =>
       have H := HA.out; clear HA; simp only [spec_l22Stay.l0] at H
       by_cases c14 : x5_2 < (l0.length : Int)
       ·rw [if_pos c14] at H
        have c14b0 : decide (x5_2 < (l0.length : Int)) = true := decide_eq_true c14; clear c14
        by_cases c15 : 0 ≤ x5_2
        ·rw [if_pos c15] at H
         have c15b0 : decide (0 ≤ x5_2) = true := decide_eq_true c15; clear c15; obtain ⟨ji16, hji16⟩ : ∃ j_ : Int, (wrap64 (x5_2 - 1)) = j_ := ⟨_, rfl⟩
         replace H : (if 0 ≤ (ji16) then (if (ji16) < (l0.length : Int) then ((spec_PtOk.f ((rd_T35 l0 x5_2).f0) ((rd_T35 l0 x5_2).f1)).bind fun t118 => (if t118 = true then (if (((rd_T35 l0 x5_2).f0) == ((rd_T35 l0 (ji16)).f0) && (((rd_T35 l0 x5_2).f1) == ((rd_T35 l0 (ji16)).f1))) = true then (spec_l22Stay.j2 k2 l0 x4_2 x5_2 true ((rd_T35 l0 x5_2).f0) ((rd_T35 l0 x5_2).f1) ((rd_T35 l0 (ji16)).f0) ((rd_T35 l0 (ji16)).f1)) else (if ((rd_T35 l0 x5_2).f0) = ((rd_T35 l0 (ji16)).f0) then (spec_l22Stay.j2 k2 l0 x4_2 x5_2 false ((rd_T35 l0 x5_2).f0) ((rd_T35 l0 x5_2).f1) ((rd_T35 l0 (ji16)).f0) ((rd_T35 l0 (ji16)).f1)) else (spec_l22Stay.j2 k2 l0 x4_2 x5_2 (((rd_T35 l0 x5_2).f1) != ((rd_T35 l0 (ji16)).f1)) ((rd_T35 l0 x5_2).f0) ((rd_T35 l0 x5_2).f1) ((rd_T35 l0 (ji16)).f0) ((rd_T35 l0 (ji16)).f1)))) else (spec_l22Stay.j2 k2 l0 x4_2 x5_2 true ((rd_T35 l0 x5_2).f0) ((rd_T35 l0 x5_2).f1) ((rd_T35 l0 (ji16)).f0) ((rd_T35 l0 (ji16)).f1)))) else (none)) else (none)) = some (r1, r2) := by first | (rw [hji16] at H; exact H) | (simp only [hji16] at H ⊢; exact H)
         have hji16w : (IntKind.i64.wrap (x5_2 - 1)) = ji16 := (i64_w _).trans hji16
         by_cases c17 : 0 ≤ (ji16)
         ·rw [if_pos c17] at H
          have c17b0 : decide (0 ≤ (ji16)) = true := decide_eq_true c17; clear c17
          by_cases c18 : (ji16) < (l0.length : Int)
          ·rw [if_pos c18] at H
           have c18b0 : decide ((ji16) < (l0.length : Int)) = true := decide_eq_true c18; clear c18; have HC19 := Aside0.mk H; clear H; have p114 : 0 ≤ (x5_2 : Int) := of_decide_eq_true bX; have q114 : x5_2 < (l0.length : Int) := of_decide_eq_true bX; obtain ⟨ad114, e114, hx114_0, hx114_1⟩ := at_T35 HR0.out x5_2 p114 q114; obtain rfl : ad107 = ad114 := (by injection e114); replace hx114_0 := (HB.out.cell (World.block_lt_of_cell? w _ hx114_0)).trans hx114_0; replace hx114_1 := (HB.out.cell (World.block_lt_of_cell? w _ hx114_1)).trans hx114_1; replace p114 := eq_true p114; replace q114 := eq_true q114; go_upto_region 9 with (first | ((with_reducible refine gate_dst (N := 6) rfl ?_); refine box_event ?hg (N := 6) ?hd (cs := #[.int .i64 0, .int .i64 0]) (t := 35) ?hr ?_; (case hd => rfl); (case hg => rfl); (case hr => first | (go_simp; done) | (go_simp; rfl)); intro gb115 hg w20 hbox hb; have n0_ := Aside0.mk (Kd.R_below (Kd.R_elderB (bR HO_4) gb115 (Nat.le_of_eq hg.symm)) hb); have n1_ := Aside0.mk (below_step (bC0 HB) hb); have n2_ := Aside0.mk (hbox); have n3_ := Aside0.mk ((by rw [hg]; exact (below_size (bC0 HB)) : w.heap.size ≤ gb115)); have n4_ := Aside0.mk ((by rw [hg]; exact (below_size (bC0 HB)) : w.heap.size ≤ gb115)); clear HO_4; clear HB; have HO_4 := n0_; have HB := n1_; have BK115 := n2_; have GW115 := n3_; have GE115 := n4_; clear n0_ n1_ n2_ n3_ n4_; clear hb hbox hg; have hcz21_0 : w20.cell? ⟨gb115, 0, none⟩ = some (.int .i64 0) := (blk_cell BK115.out 0).trans rfl; have hcz21_1 : w20.cell? ⟨gb115, 1, none⟩ = some (.int .i64 0) := (blk_cell BK115.out 1).trans rfl; have hfz21_0 := blk_frozen BK115.out 0; have hfz21_1 := blk_frozen BK115.out 1; have p116 : 0 ≤ ((ji16) : Int) := of_decide_eq_true bX; have q116 : (ji16) < (l0.length : Int) := of_decide_eq_true bX; obtain ⟨ad116, e116, hx116_0, hx116_1⟩ := at_T35 HR0.out (ji16) p116 q116; obtain rfl : ad107 = ad116 := (by injection e116); have hn116_0 : ad107.block ≠ gb115 := Nat.ne_of_lt (Nat.lt_of_lt_of_le (by have := World.block_lt_of_cell? _ _ hx116_0; first | rwa [add_block] at this | exact this) GW115.out); have hn116_1 : ad107.block ≠ gb115 := Nat.ne_of_lt (Nat.lt_of_lt_of_le (by have := World.block_lt_of_cell? _ _ hx116_0; first | rwa [add_block] at this | exact this) GW115.out); replace hx116_0 := (HB.out.cell (World.block_lt_of_cell? w _ hx116_0)).trans hx116_0; replace hx116_1 := (HB.out.cell (World.block_lt_of_cell? w _ hx116_1)).trans hx116_1; replace hx116_0 := (cell_far (p := ⟨gb115, 0, none⟩) (by first | (rw [add_block]; exact hn116_0) | (show (Addr.add _ _).block ≠ _; rw [add_block]; exact hn116_0) | exact hn116_0) (.int .i64 ((rd_T35 l0 x5_2).f0))).trans hx116_0; replace hx116_1 := (cell_far (p := ⟨gb115, 0, none⟩) (by first | (rw [add_block]; exact hn116_0) | (show (Addr.add _ _).block ≠ _; rw [add_block]; exact hn116_0) | exact hn116_0) (.int .i64 ((rd_T35 l0 x5_2).f0))).trans hx116_1; replace hx116_0 := (cell_far (p := ⟨gb115, 1, none⟩) (by first | (rw [add_block]; exact hn116_1) | (show (Addr.add _ _).block ≠ _; rw [add_block]; exact hn116_1) | exact hn116_1) (.int .i64 ((rd_T35 l0 x5_2).f1))).trans hx116_0; replace hx116_1 := (cell_far (p := ⟨gb115, 1, none⟩) (by first | (rw [add_block]; exact hn116_1) | (show (Addr.add _ _).block ≠ _; rw [add_block]; exact hn116_1) | exact hn116_1) (.int .i64 ((rd_T35 l0 x5_2).f1))).trans hx116_1; clear hn116_0; clear hn116_1; replace p116 := eq_true p116; replace q116 := eq_true q116) | ((with_reducible refine gate_dst (N := 7) rfl ?_); refine box_event ?hg (N := 7) ?hd (cs := #[.int .i64 0, .int .i64 0]) (t := 35) ?hr ?_; (case hd => rfl); (case hg => rfl); (case hr => first | (go_simp; done) | (go_simp; rfl)); intro gb117 hg w22 hbox hb; have n0_ := Aside0.mk (Kd.R_below (Kd.R_elderB (by (with_reducible repeat (first | apply Kd.R_alloc | apply Kd.R_drewN | apply Kd.R_drew)); exact (Kd.R_mono (Kd.R_far (p := ⟨gb115, 1, none⟩) (Kd.R_far (p := ⟨gb115, 0, none⟩) (Kd.R_mono HO_4.out (fun k_ hk => (⟨hk, hk.2⟩ : _ ∧ k_ ≠ gb115))) (fun _ hk => hk.2) (.int .i64 ((rd_T35 l0 x5_2).f0))) (fun _ hk => hk.2) (.int .i64 ((rd_T35 l0 x5_2).f1))) (fun _ h_ => h_.1))) gb117 (Nat.le_of_eq hg.symm)) hb); have n1_ := Aside0.mk (blk_below (g := gb115) (o := .cells #[.int .i64 ((rd_T35 l0 x5_2).f0), .int .i64 ((rd_T35 l0 x5_2).f1)] 35 (0, 0)) (by (with_reducible repeat (first | refine blk_drewN ?_ _ | refine blk_drew ?_ | refine blk_alloc ?_ _)); refine blk_put (cs := #[.int .i64 ((rd_T35 l0 x5_2).f0), .int .i64 0]) ?_ 1 _ rfl; (with_reducible repeat (first | refine blk_drewN ?_ _ | refine blk_drew ?_ | refine blk_alloc ?_ _)); refine blk_put (cs := #[.int .i64 0, .int .i64 0]) ?_ 0 _ rfl; (with_reducible repeat (first | refine blk_drewN ?_ _ | refine blk_drew ?_ | refine blk_alloc ?_ _)); exact BK115.out) hb); have n2_ := Aside0.mk (below_step (bC1 HB GE115.out) hb); have n3_ := Aside0.mk (hbox); have n4_ := Aside0.mk ((by rw [hg]; exact (below_size (bC1 HB GE115.out)) : w.heap.size ≤ gb117)); have n5_ := Aside0.mk ((by rw [hg]; exact (below_size (bC1 HB GE115.out)) : w.heap.size ≤ gb117)); have n6_ := Aside0.mk ((by rw [hg]; exact Nat.ne_of_lt (blk_lt (g := gb115) (o := .cells #[.int .i64 ((rd_T35 l0 x5_2).f0), .int .i64 ((rd_T35 l0 x5_2).f1)] 35 (0, 0)) (by (with_reducible repeat (first | refine blk_drewN ?_ _ | refine blk_drew ?_ | refine blk_alloc ?_ _)); refine blk_put (cs := #[.int .i64 ((rd_T35 l0 x5_2).f0), .int .i64 0]) ?_ 1 _ rfl; (with_reducible repeat (first | refine blk_drewN ?_ _ | refine blk_drew ?_ | refine blk_alloc ?_ _)); refine blk_put (cs := #[.int .i64 0, .int .i64 0]) ?_ 0 _ rfl; (with_reducible repeat (first | refine blk_drewN ?_ _ | refine blk_drew ?_ | refine blk_alloc ?_ _)); exact BK115.out)) : gb115 ≠ gb117)); have n7_ := Aside0.mk ((by rw [hg]; exact Nat.ne_of_gt (blk_lt (g := gb115) (o := .cells #[.int .i64 ((rd_T35 l0 x5_2).f0), .int .i64 ((rd_T35 l0 x5_2).f1)] 35 (0, 0)) (by (with_reducible repeat (first | refine blk_drewN ?_ _ | refine blk_drew ?_ | refine blk_alloc ?_ _)); refine blk_put (cs := #[.int .i64 ((rd_T35 l0 x5_2).f0), .int .i64 0]) ?_ 1 _ rfl; (with_reducible repeat (first | refine blk_drewN ?_ _ | refine blk_drew ?_ | refine blk_alloc ?_ _)); refine blk_put (cs := #[.int .i64 0, .int .i64 0]) ?_ 0 _ rfl; (with_reducible repeat (first | refine blk_drewN ?_ _ | refine blk_drew ?_ | refine blk_alloc ?_ _)); exact BK115.out)) : gb117 ≠ gb115)); clear HO_4; clear BK115; clear HB; have HO_4 := n0_; have BK115 := n1_; have HB := n2_; have BK117 := n3_; have GW117 := n4_; have GE117 := n5_; have NB115_117 := n6_; have NB117_115 := n7_; clear n0_ n1_ n2_ n3_ n4_ n5_ n6_ n7_; clear hb hbox hg; have hnb23 := NB117_115.out; have hnc23 := NB115_117.out; have hcz24_0 : w22.cell? ⟨gb117, 0, none⟩ = some (.int .i64 0) := (blk_cell BK117.out 0).trans rfl; have hcz24_1 : w22.cell? ⟨gb117, 1, none⟩ = some (.int .i64 0) := (blk_cell BK117.out 1).trans rfl; have hfz24_0 := blk_frozen BK117.out 0; have hfz24_1 := blk_frozen BK117.out 1))
           (try simp only [Act.put, List.setIfInBounds_toArray, List.set_cons_zero, List.set_cons_succ]); go_cut [60] (fun v60 wc => ∃ (kq : Nat) (x60_18 : Bool), v60 = .bool x60_18 ∧ Aside0 (spec_l22Stay.j2 kq l0 x4_2 x5_2 x60_18 ((rd_T35 l0 x5_2).f0) ((rd_T35 l0 x5_2).f1) ((rd_T35 l0 (ji16)).f0) ((rd_T35 l0 (ji16)).f1) = some (r1, r2)) ∧ Aside0 (kq ≤ k2) ∧ Aside0 (Kd.R k35 35 wc w.heap.size (fun k_ => k_ ≠ gb115 ∧ k_ ≠ gb117) u4 x4_2) ∧ Aside0 (wc.heap[gb115]? = some (.cells #[.int .i64 ((rd_T35 l0 x5_2).f0), .int .i64 ((rd_T35 l0 x5_2).f1)] 35 (0, 0))) ∧ Aside0 (wc.heap[gb117]? = some (.cells #[.int .i64 ((rd_T35 l0 (ji16)).f0), .int .i64 ((rd_T35 l0 (ji16)).f1)] 35 (0, 0))) ∧ Aside0 (Below w.heap.size w wc))
           case first =>
            have H := HC19.out; clear HC19; replace H := Option.bind_eq_some_iff.mp H; obtain ⟨t118, A250, H⟩ := H; replace H : (if t118 = true then (if (((rd_T35 l0 x5_2).f0) == ((rd_T35 l0 (ji16)).f0) && (((rd_T35 l0 x5_2).f1) == ((rd_T35 l0 (ji16)).f1))) = true then (spec_l22Stay.j2 k2 l0 x4_2 x5_2 true ((rd_T35 l0 x5_2).f0) ((rd_T35 l0 x5_2).f1) ((rd_T35 l0 (ji16)).f0) ((rd_T35 l0 (ji16)).f1)) else (if ((rd_T35 l0 x5_2).f0) = ((rd_T35 l0 (ji16)).f0) then (spec_l22Stay.j2 k2 l0 x4_2 x5_2 false ((rd_T35 l0 x5_2).f0) ((rd_T35 l0 x5_2).f1) ((rd_T35 l0 (ji16)).f0) ((rd_T35 l0 (ji16)).f1)) else (spec_l22Stay.j2 k2 l0 x4_2 x5_2 (((rd_T35 l0 x5_2).f1) != ((rd_T35 l0 (ji16)).f1)) ((rd_T35 l0 x5_2).f0) ((rd_T35 l0 x5_2).f1) ((rd_T35 l0 (ji16)).f0) ((rd_T35 l0 (ji16)).f1)))) else (spec_l22Stay.j2 k2 l0 x4_2 x5_2 true ((rd_T35 l0 x5_2).f0) ((rd_T35 l0 x5_2).f1) ((rd_T35 l0 (ji16)).f0) ((rd_T35 l0 (ji16)).f1))) = some (r1, r2) := H; have A25 := Aside0.mk A250; clear A250
            by_cases c26 : t118 = true
            ·subst c26
             have H1 : (if (((rd_T35 l0 x5_2).f0) == ((rd_T35 l0 (ji16)).f0) && (((rd_T35 l0 x5_2).f1) == ((rd_T35 l0 (ji16)).f1))) = true then (spec_l22Stay.j2 k2 l0 x4_2 x5_2 true ((rd_T35 l0 x5_2).f0) ((rd_T35 l0 x5_2).f1) ((rd_T35 l0 (ji16)).f0) ((rd_T35 l0 (ji16)).f1)) else (if ((rd_T35 l0 x5_2).f0) = ((rd_T35 l0 (ji16)).f0) then (spec_l22Stay.j2 k2 l0 x4_2 x5_2 false ((rd_T35 l0 x5_2).f0) ((rd_T35 l0 x5_2).f1) ((rd_T35 l0 (ji16)).f0) ((rd_T35 l0 (ji16)).f1)) else (spec_l22Stay.j2 k2 l0 x4_2 x5_2 (((rd_T35 l0 x5_2).f1) != ((rd_T35 l0 (ji16)).f1)) ((rd_T35 l0 x5_2).f0) ((rd_T35 l0 x5_2).f1) ((rd_T35 l0 (ji16)).f0) ((rd_T35 l0 (ji16)).f1)))) = some (r1, r2) := by rw [if_pos rfl] at H; exact H
             clear H; have H := H1; clear H1
             by_cases c27 : (((rd_T35 l0 x5_2).f0) == ((rd_T35 l0 (ji16)).f0) && (((rd_T35 l0 x5_2).f1) == ((rd_T35 l0 (ji16)).f1))) = true
             ·rw [if_pos c27] at H
              have c27b0 : (((rd_T35 l0 x5_2).f0) == ((rd_T35 l0 (ji16)).f0) && (((rd_T35 l0 x5_2).f1) == ((rd_T35 l0 (ji16)).f1))) = true := c27; (try (have c27b1 : decide (((rd_T35 l0 x5_2).f0) = ((rd_T35 l0 (ji16)).f0) && (((rd_T35 l0 x5_2).f1) == ((rd_T35 l0 (ji16)).f1))) = true := by simpa using c27)); (try (have c27b2 : (((rd_T35 l0 x5_2).f0) == ((rd_T35 l0 (ji16)).f0) && (((rd_T35 l0 x5_2).f1) == ((rd_T35 l0 (ji16)).f1))) = true := by simpa using c27)); clear c27; (first | rw [c27b0] | (simp only [i64_w, i32_w]; rw [c27b0]) | skip); have H' := Aside0.mk H; clear H; have hnb28 := NB115_117.out; have hnc28 := NB117_115.out; have hcz29_0 : w22.cell? ⟨gb115, 0, none⟩ = some (.int .i64 ((rd_T35 l0 x5_2).f0)) := (blk_cell BK115.out 0).trans rfl; have hcz29_1 : w22.cell? ⟨gb115, 1, none⟩ = some (.int .i64 ((rd_T35 l0 x5_2).f1)) := (blk_cell BK115.out 1).trans rfl; have hfz29_0 := blk_frozen BK115.out 0; have hfz29_1 := blk_frozen BK115.out 1; go_wp2_with (first | ((with_reducible refine gate_callee (f := 52) rfl ?_); refine goesL_ (some 40) rfl rfl Tryd.func52 (by kernel_rfl) rfl #[.agg #[.int .i64 ((rd_T35 l0 x5_2).f0), .int .i64 ((rd_T35 l0 x5_2).f1)]] rfl bM ?_; (with_reducible refine (spec_PtOk.calls ((rd_T35 l0 x5_2).f0) ((rd_T35 l0 x5_2).f1) true _ A25.out).mono ?_); rintro e w30 ⟨rfl, hb⟩; refine ⟨_, rfl, ?_⟩; have n0_ := Aside0.mk (Kd.R_below (by (with_reducible repeat (first | apply Kd.R_alloc | apply Kd.R_drewN | apply Kd.R_drew)); exact (Kd.R_mono (Kd.R_far (p := ⟨gb117, 1, none⟩) (Kd.R_far (p := ⟨gb117, 0, none⟩) (Kd.R_mono HO_4.out (fun k_ hk => (⟨hk, hk.2⟩ : _ ∧ k_ ≠ gb117))) (fun _ hk => hk.2) (.int .i64 ((rd_T35 l0 (ji16)).f0))) (fun _ hk => hk.2) (.int .i64 ((rd_T35 l0 (ji16)).f1))) (fun _ h_ => h_.1))) hb); have n1_ := Aside0.mk (blk_below (g := gb115) (o := .cells #[.int .i64 ((rd_T35 l0 x5_2).f0), .int .i64 ((rd_T35 l0 x5_2).f1)] 35 (0, 0)) (by (with_reducible repeat (first | refine blk_drewN ?_ _ | refine blk_drew ?_ | refine blk_alloc ?_ _)); refine blk_far ?_ NB115_117.out _; (with_reducible repeat (first | refine blk_drewN ?_ _ | refine blk_drew ?_ | refine blk_alloc ?_ _)); refine blk_far ?_ NB115_117.out _; (with_reducible repeat (first | refine blk_drewN ?_ _ | refine blk_drew ?_ | refine blk_alloc ?_ _)); exact BK115.out) hb); have n2_ := Aside0.mk (blk_below (g := gb117) (o := .cells #[.int .i64 ((rd_T35 l0 (ji16)).f0), .int .i64 ((rd_T35 l0 (ji16)).f1)] 35 (0, 0)) (by (with_reducible repeat (first | refine blk_drewN ?_ _ | refine blk_drew ?_ | refine blk_alloc ?_ _)); refine blk_put (cs := #[.int .i64 ((rd_T35 l0 (ji16)).f0), .int .i64 0]) ?_ 1 _ rfl; (with_reducible repeat (first | refine blk_drewN ?_ _ | refine blk_drew ?_ | refine blk_alloc ?_ _)); refine blk_put (cs := #[.int .i64 0, .int .i64 0]) ?_ 0 _ rfl; (with_reducible repeat (first | refine blk_drewN ?_ _ | refine blk_drew ?_ | refine blk_alloc ?_ _)); exact BK117.out) hb); have n3_ := Aside0.mk (below_step (bC2 HB GE115.out GE117.out) hb); clear HO_4; clear BK115; clear BK117; clear HB; have HO_4 := n0_; have BK115 := n1_; have BK117 := n2_; have HB := n3_; clear n0_ n1_ n2_ n3_; (try clear hb); (try clear hb2); (try clear hk); (try clear hi); have hcz31_0 : w30.cell? ⟨gb115, 0, none⟩ = some (.int .i64 ((rd_T35 l0 x5_2).f0)) := (blk_cell BK115.out 0).trans rfl; have hcz31_1 : w30.cell? ⟨gb115, 1, none⟩ = some (.int .i64 ((rd_T35 l0 x5_2).f1)) := (blk_cell BK115.out 1).trans rfl; have hfz31_0 := blk_frozen BK115.out 0; have hfz31_1 := blk_frozen BK115.out 1; have hcz32_0 : w30.cell? ⟨gb117, 0, none⟩ = some (.int .i64 ((rd_T35 l0 (ji16)).f0)) := (blk_cell BK117.out 0).trans rfl; have hcz32_1 : w30.cell? ⟨gb117, 1, none⟩ = some (.int .i64 ((rd_T35 l0 (ji16)).f1)) := (blk_cell BK117.out 1).trans rfl; have hfz32_0 := blk_frozen BK117.out 0; have hfz32_1 := blk_frozen BK117.out 1))
              go_meet
              case rel => exact ⟨_, (true), (by first | rfl | (simp; done) | (simp [*]; done)), H', ⟨by have := HJ1.out; have := HK2.out; first | omega | exact Nat.le_refl _⟩, ⟨by (with_reducible repeat (first | apply Kd.R_alloc | apply Kd.R_drewN | apply Kd.R_drew)); exact Kd.R_mono HO_4.out (fun _ hk => ⟨hk.1.2, hk.2⟩)⟩, ⟨by (with_reducible repeat (first | refine blk_drewN ?_ _ | refine blk_drew ?_ | refine blk_alloc ?_ _)); exact BK115.out⟩, ⟨by (with_reducible repeat (first | refine blk_drewN ?_ _ | refine blk_drew ?_ | refine blk_alloc ?_ _)); exact BK117.out⟩, ⟨(bC2 HB GE115.out GE117.out)⟩⟩
             ·rw [if_neg c27] at H
              have c27b0 : (((rd_T35 l0 x5_2).f0) == ((rd_T35 l0 (ji16)).f0) && (((rd_T35 l0 x5_2).f1) == ((rd_T35 l0 (ji16)).f1))) = false := by simpa using c27
              (try (have c27b1 : decide (((rd_T35 l0 x5_2).f0) = ((rd_T35 l0 (ji16)).f0) && (((rd_T35 l0 x5_2).f1) == ((rd_T35 l0 (ji16)).f1))) = false := by simpa using c27)); (try (have c27b2 : (((rd_T35 l0 x5_2).f0) == ((rd_T35 l0 (ji16)).f0) && (((rd_T35 l0 x5_2).f1) == ((rd_T35 l0 (ji16)).f1))) = false := by simpa using c27)); (try (have c27b3 : ¬ (((rd_T35 l0 x5_2).f0) = ((rd_T35 l0 (ji16)).f0) && (((rd_T35 l0 x5_2).f1) == ((rd_T35 l0 (ji16)).f1))) := by simpa using c27)); clear c27; (first | rw [c27b0] | (simp only [i64_w, i32_w]; rw [c27b0]) | skip)
              by_cases c33 : ((rd_T35 l0 x5_2).f0) = ((rd_T35 l0 (ji16)).f0)
              ·rw [if_pos c33] at H
               have c33b0 : (((rd_T35 l0 x5_2).f0) == ((rd_T35 l0 (ji16)).f0)) = true := beq_iff_eq.mpr c33; (try (have c33x := c27b0; rw [c33b0, Bool.true_and] at c33x)); have c33b1 : (((rd_T35 l0 x5_2).f0) != ((rd_T35 l0 (ji16)).f0)) = false := bne_eq_false_iff_eq.mpr c33; clear c33; have H' := Aside0.mk H; clear H; have hnb34 := NB115_117.out; have hnc34 := NB117_115.out; have hcz35_0 : w22.cell? ⟨gb115, 0, none⟩ = some (.int .i64 ((rd_T35 l0 x5_2).f0)) := (blk_cell BK115.out 0).trans rfl; have hcz35_1 : w22.cell? ⟨gb115, 1, none⟩ = some (.int .i64 ((rd_T35 l0 x5_2).f1)) := (blk_cell BK115.out 1).trans rfl; have hfz35_0 := blk_frozen BK115.out 0; have hfz35_1 := blk_frozen BK115.out 1; go_wp2_with (first | ((with_reducible refine gate_callee (f := 52) rfl ?_); refine goesL_ (some 40) rfl rfl Tryd.func52 (by kernel_rfl) rfl #[.agg #[.int .i64 ((rd_T35 l0 x5_2).f0), .int .i64 ((rd_T35 l0 x5_2).f1)]] rfl bM ?_; (with_reducible refine (spec_PtOk.calls ((rd_T35 l0 x5_2).f0) ((rd_T35 l0 x5_2).f1) true _ A25.out).mono ?_); rintro e w36 ⟨rfl, hb⟩; refine ⟨_, rfl, ?_⟩; have n0_ := Aside0.mk (Kd.R_below (by (with_reducible repeat (first | apply Kd.R_alloc | apply Kd.R_drewN | apply Kd.R_drew)); exact (Kd.R_mono (Kd.R_far (p := ⟨gb117, 1, none⟩) (Kd.R_far (p := ⟨gb117, 0, none⟩) (Kd.R_mono HO_4.out (fun k_ hk => (⟨hk, hk.2⟩ : _ ∧ k_ ≠ gb117))) (fun _ hk => hk.2) (.int .i64 ((rd_T35 l0 (ji16)).f0))) (fun _ hk => hk.2) (.int .i64 ((rd_T35 l0 (ji16)).f1))) (fun _ h_ => h_.1))) hb); have n1_ := Aside0.mk (blk_below (g := gb115) (o := .cells #[.int .i64 ((rd_T35 l0 x5_2).f0), .int .i64 ((rd_T35 l0 x5_2).f1)] 35 (0, 0)) (by (with_reducible repeat (first | refine blk_drewN ?_ _ | refine blk_drew ?_ | refine blk_alloc ?_ _)); refine blk_far ?_ NB115_117.out _; (with_reducible repeat (first | refine blk_drewN ?_ _ | refine blk_drew ?_ | refine blk_alloc ?_ _)); refine blk_far ?_ NB115_117.out _; (with_reducible repeat (first | refine blk_drewN ?_ _ | refine blk_drew ?_ | refine blk_alloc ?_ _)); exact BK115.out) hb); have n2_ := Aside0.mk (blk_below (g := gb117) (o := .cells #[.int .i64 ((rd_T35 l0 (ji16)).f0), .int .i64 ((rd_T35 l0 (ji16)).f1)] 35 (0, 0)) (by (with_reducible repeat (first | refine blk_drewN ?_ _ | refine blk_drew ?_ | refine blk_alloc ?_ _)); refine blk_put (cs := #[.int .i64 ((rd_T35 l0 (ji16)).f0), .int .i64 0]) ?_ 1 _ rfl; (with_reducible repeat (first | refine blk_drewN ?_ _ | refine blk_drew ?_ | refine blk_alloc ?_ _)); refine blk_put (cs := #[.int .i64 0, .int .i64 0]) ?_ 0 _ rfl; (with_reducible repeat (first | refine blk_drewN ?_ _ | refine blk_drew ?_ | refine blk_alloc ?_ _)); exact BK117.out) hb); have n3_ := Aside0.mk (below_step (bC2 HB GE115.out GE117.out) hb); clear HO_4; clear BK115; clear BK117; clear HB; have HO_4 := n0_; have BK115 := n1_; have BK117 := n2_; have HB := n3_; clear n0_ n1_ n2_ n3_; (try clear hb); (try clear hb2); (try clear hk); (try clear hi); have hcz37_0 : w36.cell? ⟨gb115, 0, none⟩ = some (.int .i64 ((rd_T35 l0 x5_2).f0)) := (blk_cell BK115.out 0).trans rfl; have hcz37_1 : w36.cell? ⟨gb115, 1, none⟩ = some (.int .i64 ((rd_T35 l0 x5_2).f1)) := (blk_cell BK115.out 1).trans rfl; have hfz37_0 := blk_frozen BK115.out 0; have hfz37_1 := blk_frozen BK115.out 1; have hcz38_0 : w36.cell? ⟨gb117, 0, none⟩ = some (.int .i64 ((rd_T35 l0 (ji16)).f0)) := (blk_cell BK117.out 0).trans rfl; have hcz38_1 : w36.cell? ⟨gb117, 1, none⟩ = some (.int .i64 ((rd_T35 l0 (ji16)).f1)) := (blk_cell BK117.out 1).trans rfl; have hfz38_0 := blk_frozen BK117.out 0; have hfz38_1 := blk_frozen BK117.out 1)); go_meet
               case rel => exact ⟨_, (false), (by first | rfl | (simp; done) | (simp [*]; done)), H', ⟨by have := HJ1.out; have := HK2.out; first | omega | exact Nat.le_refl _⟩, ⟨by (with_reducible repeat (first | apply Kd.R_alloc | apply Kd.R_drewN | apply Kd.R_drew)); exact Kd.R_mono HO_4.out (fun _ hk => ⟨hk.1.2, hk.2⟩)⟩, ⟨by (with_reducible repeat (first | refine blk_drewN ?_ _ | refine blk_drew ?_ | refine blk_alloc ?_ _)); exact BK115.out⟩, ⟨by (with_reducible repeat (first | refine blk_drewN ?_ _ | refine blk_drew ?_ | refine blk_alloc ?_ _)); exact BK117.out⟩, ⟨(bC2 HB GE115.out GE117.out)⟩⟩
              ·rw [if_neg c33] at H
               have c33b0 : (((rd_T35 l0 x5_2).f0) == ((rd_T35 l0 (ji16)).f0)) = false := beq_eq_false_iff_ne.mpr c33; have c33b1 : (((rd_T35 l0 x5_2).f0) != ((rd_T35 l0 (ji16)).f0)) = true := bne_iff_ne.mpr c33; have H' := Aside0.mk H; clear H; have hnb39 := NB115_117.out; have hnc39 := NB117_115.out; have hcz40_0 : w22.cell? ⟨gb115, 0, none⟩ = some (.int .i64 ((rd_T35 l0 x5_2).f0)) := (blk_cell BK115.out 0).trans rfl; have hcz40_1 : w22.cell? ⟨gb115, 1, none⟩ = some (.int .i64 ((rd_T35 l0 x5_2).f1)) := (blk_cell BK115.out 1).trans rfl; have hfz40_0 := blk_frozen BK115.out 0; have hfz40_1 := blk_frozen BK115.out 1; go_wp2_with (first | ((with_reducible refine gate_callee (f := 52) rfl ?_); refine goesL_ (some 40) rfl rfl Tryd.func52 (by kernel_rfl) rfl #[.agg #[.int .i64 ((rd_T35 l0 x5_2).f0), .int .i64 ((rd_T35 l0 x5_2).f1)]] rfl bM ?_; (with_reducible refine (spec_PtOk.calls ((rd_T35 l0 x5_2).f0) ((rd_T35 l0 x5_2).f1) true _ A25.out).mono ?_); rintro e w41 ⟨rfl, hb⟩; refine ⟨_, rfl, ?_⟩; have n0_ := Aside0.mk (Kd.R_below (by (with_reducible repeat (first | apply Kd.R_alloc | apply Kd.R_drewN | apply Kd.R_drew)); exact (Kd.R_mono (Kd.R_far (p := ⟨gb117, 1, none⟩) (Kd.R_far (p := ⟨gb117, 0, none⟩) (Kd.R_mono HO_4.out (fun k_ hk => (⟨hk, hk.2⟩ : _ ∧ k_ ≠ gb117))) (fun _ hk => hk.2) (.int .i64 ((rd_T35 l0 (ji16)).f0))) (fun _ hk => hk.2) (.int .i64 ((rd_T35 l0 (ji16)).f1))) (fun _ h_ => h_.1))) hb); have n1_ := Aside0.mk (blk_below (g := gb115) (o := .cells #[.int .i64 ((rd_T35 l0 x5_2).f0), .int .i64 ((rd_T35 l0 x5_2).f1)] 35 (0, 0)) (by (with_reducible repeat (first | refine blk_drewN ?_ _ | refine blk_drew ?_ | refine blk_alloc ?_ _)); refine blk_far ?_ NB115_117.out _; (with_reducible repeat (first | refine blk_drewN ?_ _ | refine blk_drew ?_ | refine blk_alloc ?_ _)); refine blk_far ?_ NB115_117.out _; (with_reducible repeat (first | refine blk_drewN ?_ _ | refine blk_drew ?_ | refine blk_alloc ?_ _)); exact BK115.out) hb); have n2_ := Aside0.mk (blk_below (g := gb117) (o := .cells #[.int .i64 ((rd_T35 l0 (ji16)).f0), .int .i64 ((rd_T35 l0 (ji16)).f1)] 35 (0, 0)) (by (with_reducible repeat (first | refine blk_drewN ?_ _ | refine blk_drew ?_ | refine blk_alloc ?_ _)); refine blk_put (cs := #[.int .i64 ((rd_T35 l0 (ji16)).f0), .int .i64 0]) ?_ 1 _ rfl; (with_reducible repeat (first | refine blk_drewN ?_ _ | refine blk_drew ?_ | refine blk_alloc ?_ _)); refine blk_put (cs := #[.int .i64 0, .int .i64 0]) ?_ 0 _ rfl; (with_reducible repeat (first | refine blk_drewN ?_ _ | refine blk_drew ?_ | refine blk_alloc ?_ _)); exact BK117.out) hb); have n3_ := Aside0.mk (below_step (bC2 HB GE115.out GE117.out) hb); clear HO_4; clear BK115; clear BK117; clear HB; have HO_4 := n0_; have BK115 := n1_; have BK117 := n2_; have HB := n3_; clear n0_ n1_ n2_ n3_; (try clear hb); (try clear hb2); (try clear hk); (try clear hi); have hcz42_0 : w41.cell? ⟨gb115, 0, none⟩ = some (.int .i64 ((rd_T35 l0 x5_2).f0)) := (blk_cell BK115.out 0).trans rfl; have hcz42_1 : w41.cell? ⟨gb115, 1, none⟩ = some (.int .i64 ((rd_T35 l0 x5_2).f1)) := (blk_cell BK115.out 1).trans rfl; have hfz42_0 := blk_frozen BK115.out 0; have hfz42_1 := blk_frozen BK115.out 1; have hcz43_0 : w41.cell? ⟨gb117, 0, none⟩ = some (.int .i64 ((rd_T35 l0 (ji16)).f0)) := (blk_cell BK117.out 0).trans rfl; have hcz43_1 : w41.cell? ⟨gb117, 1, none⟩ = some (.int .i64 ((rd_T35 l0 (ji16)).f1)) := (blk_cell BK117.out 1).trans rfl; have hfz43_0 := blk_frozen BK117.out 0; have hfz43_1 := blk_frozen BK117.out 1)); go_meet
               case rel => exact ⟨_, ((((rd_T35 l0 x5_2).f1) != ((rd_T35 l0 (ji16)).f1))), (by first | rfl | (simp; done) | (simp only [← hji16] <;> (first | rfl | simp)) | (simp [*]; done)), H', ⟨by have := HJ1.out; have := HK2.out; first | omega | exact Nat.le_refl _⟩, ⟨by (with_reducible repeat (first | apply Kd.R_alloc | apply Kd.R_drewN | apply Kd.R_drew)); exact Kd.R_mono HO_4.out (fun _ hk => ⟨hk.1.2, hk.2⟩)⟩, ⟨by (with_reducible repeat (first | refine blk_drewN ?_ _ | refine blk_drew ?_ | refine blk_alloc ?_ _)); exact BK115.out⟩, ⟨by (with_reducible repeat (first | refine blk_drewN ?_ _ | refine blk_drew ?_ | refine blk_alloc ?_ _)); exact BK117.out⟩, ⟨(bC2 HB GE115.out GE117.out)⟩⟩
            ·replace c26 := Bool.eq_false_iff.mpr c26
             subst c26
             have H1 : (spec_l22Stay.j2 k2 l0 x4_2 x5_2 true ((rd_T35 l0 x5_2).f0) ((rd_T35 l0 x5_2).f1) ((rd_T35 l0 (ji16)).f0) ((rd_T35 l0 (ji16)).f1)) = some (r1, r2) := by rw [if_neg (show ¬ (false = true) by decide)] at H; exact H
             clear H; have H := H1; clear H1; have H' := Aside0.mk H; clear H; have hnb44 := NB115_117.out; have hnc44 := NB117_115.out; have hcz45_0 : w22.cell? ⟨gb115, 0, none⟩ = some (.int .i64 ((rd_T35 l0 x5_2).f0)) := (blk_cell BK115.out 0).trans rfl; have hcz45_1 : w22.cell? ⟨gb115, 1, none⟩ = some (.int .i64 ((rd_T35 l0 x5_2).f1)) := (blk_cell BK115.out 1).trans rfl; have hfz45_0 := blk_frozen BK115.out 0; have hfz45_1 := blk_frozen BK115.out 1; go_wp2_with (first | ((with_reducible refine gate_callee (f := 52) rfl ?_); refine goesL_ (some 40) rfl rfl Tryd.func52 (by kernel_rfl) rfl #[.agg #[.int .i64 ((rd_T35 l0 x5_2).f0), .int .i64 ((rd_T35 l0 x5_2).f1)]] rfl bM ?_; (with_reducible refine (spec_PtOk.calls ((rd_T35 l0 x5_2).f0) ((rd_T35 l0 x5_2).f1) false _ A25.out).mono ?_); rintro e w46 ⟨rfl, hb⟩; refine ⟨_, rfl, ?_⟩; have n0_ := Aside0.mk (Kd.R_below (by (with_reducible repeat (first | apply Kd.R_alloc | apply Kd.R_drewN | apply Kd.R_drew)); exact (Kd.R_mono (Kd.R_far (p := ⟨gb117, 1, none⟩) (Kd.R_far (p := ⟨gb117, 0, none⟩) (Kd.R_mono HO_4.out (fun k_ hk => (⟨hk, hk.2⟩ : _ ∧ k_ ≠ gb117))) (fun _ hk => hk.2) (.int .i64 ((rd_T35 l0 (ji16)).f0))) (fun _ hk => hk.2) (.int .i64 ((rd_T35 l0 (ji16)).f1))) (fun _ h_ => h_.1))) hb); have n1_ := Aside0.mk (blk_below (g := gb115) (o := .cells #[.int .i64 ((rd_T35 l0 x5_2).f0), .int .i64 ((rd_T35 l0 x5_2).f1)] 35 (0, 0)) (by (with_reducible repeat (first | refine blk_drewN ?_ _ | refine blk_drew ?_ | refine blk_alloc ?_ _)); refine blk_far ?_ NB115_117.out _; (with_reducible repeat (first | refine blk_drewN ?_ _ | refine blk_drew ?_ | refine blk_alloc ?_ _)); refine blk_far ?_ NB115_117.out _; (with_reducible repeat (first | refine blk_drewN ?_ _ | refine blk_drew ?_ | refine blk_alloc ?_ _)); exact BK115.out) hb); have n2_ := Aside0.mk (blk_below (g := gb117) (o := .cells #[.int .i64 ((rd_T35 l0 (ji16)).f0), .int .i64 ((rd_T35 l0 (ji16)).f1)] 35 (0, 0)) (by (with_reducible repeat (first | refine blk_drewN ?_ _ | refine blk_drew ?_ | refine blk_alloc ?_ _)); refine blk_put (cs := #[.int .i64 ((rd_T35 l0 (ji16)).f0), .int .i64 0]) ?_ 1 _ rfl; (with_reducible repeat (first | refine blk_drewN ?_ _ | refine blk_drew ?_ | refine blk_alloc ?_ _)); refine blk_put (cs := #[.int .i64 0, .int .i64 0]) ?_ 0 _ rfl; (with_reducible repeat (first | refine blk_drewN ?_ _ | refine blk_drew ?_ | refine blk_alloc ?_ _)); exact BK117.out) hb); have n3_ := Aside0.mk (below_step (bC2 HB GE115.out GE117.out) hb); clear HO_4; clear BK115; clear BK117; clear HB; have HO_4 := n0_; have BK115 := n1_; have BK117 := n2_; have HB := n3_; clear n0_ n1_ n2_ n3_; (try clear hb); (try clear hb2); (try clear hk); (try clear hi))); go_meet
             case rel => exact ⟨_, (true), (by first | rfl | (simp; done) | (simp [*]; done)), H', ⟨by have := HJ1.out; have := HK2.out; first | omega | exact Nat.le_refl _⟩, ⟨by (with_reducible repeat (first | apply Kd.R_alloc | apply Kd.R_drewN | apply Kd.R_drew)); exact Kd.R_mono HO_4.out (fun _ hk => ⟨hk.1.2, hk.2⟩)⟩, ⟨by (with_reducible repeat (first | refine blk_drewN ?_ _ | refine blk_drew ?_ | refine blk_alloc ?_ _)); exact BK115.out⟩, ⟨by (with_reducible repeat (first | refine blk_drewN ?_ _ | refine blk_drew ?_ | refine blk_alloc ?_ _)); exact BK117.out⟩, ⟨(bC2 HB GE115.out GE117.out)⟩⟩
           case rest =>
            clear HC19
            try clear c1
            try clear p1
            try clear q1
            try clear hx1
            try clear qi1
            try clear c2
            try clear p2
            try clear c3
            try clear c4
            try clear c5
            try clear c5b0
            try clear c5b1
            try clear p6
            try clear c8
            try clear p10
            try clear q10
            try clear hx10
            try clear qi10
            try clear c11
            try clear c11b0
            try clear c11b1
            try clear p11
            try clear q11
            try clear hx11
            try clear c14
            try clear c14b0
            try clear c15
            try clear c15b0
            try clear c17
            try clear c17b0
            try clear c18
            try clear c18b0
            try clear c23
            try clear c26
            try clear c27
            try clear c27b0
            try clear c27b1
            try clear c27b2
            try clear c28
            try clear c33
            try clear c33b0
            try clear c33b1
            try clear c34
            try clear c39
            try clear c44
            try clear hcz21_0
            try clear hcz21_1
            try clear hcz24_0
            try clear hcz24_1
            try clear hcz29_0
            try clear hcz29_1
            try clear hcz31_0
            try clear hcz31_1
            try clear hcz32_0
            try clear hcz32_1
            try clear hcz35_0
            try clear hcz35_1
            try clear hcz37_0
            try clear hcz37_1
            try clear hcz38_0
            try clear hcz38_1
            try clear hcz40_0
            try clear hcz40_1
            try clear hcz42_0
            try clear hcz42_1
            try clear hcz43_0
            try clear hcz43_1
            try clear hcz45_0
            try clear hcz45_1
            try clear hfz21_0
            try clear hfz21_1
            try clear hfz24_0
            try clear hfz24_1
            try clear hfz29_0
            try clear hfz29_1
            try clear hfz31_0
            try clear hfz31_1
            try clear hfz32_0
            try clear hfz32_1
            try clear hfz35_0
            try clear hfz35_1
            try clear hfz37_0
            try clear hfz37_1
            try clear hfz38_0
            try clear hfz38_1
            try clear hfz40_0
            try clear hfz40_1
            try clear hfz42_0
            try clear hfz42_1
            try clear hfz43_0
            try clear hfz43_1
            try clear hfz45_0
            try clear hfz45_1
            try clear hx102_0
            try clear hx102_1
            try clear hx107_0
            try clear hx107_1
            try clear hx114_0
            try clear hx114_1
            try clear hx116_0
            try clear hx116_1
            try clear p1
            try clear p10
            try clear p102
            try clear p107
            try clear p114
            try clear p116
            try clear p2
            try clear q1
            try clear q10
            try clear q102
            try clear q107
            try clear q114
            try clear q116
            obtain ⟨kq, x60_18, rfl, HA, HJ18, HO_4, BK115, BK117, HB⟩ := hcut
            cases kq with
            | zero => exact absurd HA.out (by simp [spec_l22Stay.j2])
            | succ kj18 =>
             have H := HA.out; clear HA; simp only [spec_l22Stay.j2] at H
             by_cases c47 : x60_18 = true
             ·subst c47
              have H1 : (some ((([] : List (S35))), false)) = some (r1, r2) := by rw [if_pos rfl] at H; exact H
              clear H; have H := H1; clear H1; obtain ⟨y119, hy119⟩ : ∃ y_ : List (S35), y_ = (([] : List (S35))) := ⟨_, rfl⟩
              replace H : (some (y119, false)) = some (r1, r2) := by first | (rw [hy119]; with_reducible exact H) | (have H2_ := (Option.bind_some _ _).symm.trans H; rw [hy119]; with_reducible exact H2_) | (have H2_ := (Option.bind_some _ _).symm.trans H; with_reducible exact H2_) | with_reducible exact H | (rw [hy119]; exact H) | exact H
              have Ny119 := Aside0.mk hy119; clear hy119; simp only [Option.some.injEq, Prod.mk.injEq] at H; obtain ⟨rfl, rfl⟩ := H; go_wp2_with (first | ((with_reducible refine gate_dst (N := 61) rfl ?_); refine Kd.R_lit k35 _ 35 ?hg (N := 61) ?hd (xs := ([] : List (S35))) (inner := []) (ok := fun _ => True) (okp := fun _ => True) ?hr ?hp (fun _ hk => hk) trivial (Below.refl _ _) (Nat.le_refl _) (by simp) ?_; (case hd => rfl); (case hg => rfl); (case hr => first | (go_simp; done) | (go_simp; rfl)); (case hp => exact (Reps.none _ _)); intro v120 w48 ho49 hb hg_ hnew_; clear hg_ hnew_; (first | rw [← Ny119.out] at ho49 | (simp only [Int.reduceToNat] at ho49; rw [← Ny119.out] at ho49)); have n0_ := Aside0.mk (Kd.R_elder' (bR HO_4) (Kd.R_base ho49) hb); have n1_ := Aside0.mk (Kd.R_lower (Kd.R_newB (Kd.R_newB (Kd.R_new' ho49 (Kd.R_lt (bR HO_4))) (g := gb115) (o := .cells #[.int .i64 ((rd_T35 l0 x5_2).f0), .int .i64 ((rd_T35 l0 x5_2).f1)] 35 (0, 0)) (bA BK115)) (g := gb117) (o := .cells #[.int .i64 ((rd_T35 l0 (ji16)).f0), .int .i64 ((rd_T35 l0 (ji16)).f1)] 35 (0, 0)) (bA BK117)) (below_size (bC2 HB GE115.out GE117.out))); have n2_ := Aside0.mk (blk_below (g := gb115) (o := .cells #[.int .i64 ((rd_T35 l0 x5_2).f0), .int .i64 ((rd_T35 l0 x5_2).f1)] 35 (0, 0)) (bA BK115) hb); have n3_ := Aside0.mk (blk_below (g := gb117) (o := .cells #[.int .i64 ((rd_T35 l0 (ji16)).f0), .int .i64 ((rd_T35 l0 (ji16)).f1)] 35 (0, 0)) (bA BK117) hb); have n4_ := Aside0.mk (below_step (bC2 HB GE115.out GE117.out) hb); clear HO_4; clear BK115; clear BK117; clear HB; have HO_4 := n0_; have HO121 := n1_; have BK115 := n2_; have BK117 := n3_; have HB := n4_; clear n0_ n1_ n2_ n3_ n4_; clear hb ho49)); go_ret2
              exact ⟨_, by first | rfl | (simp [errW_none, errW_some] <;> rfl) | (simp only [← hji16]; first | rfl | (simp [errW_none, errW_some] <;> rfl)) | (simp [*, errW_none, errW_some] <;> rfl), by (with_reducible repeat (first | apply Kd.R_alloc | apply Kd.R_drewN | apply Kd.R_drew)); exact Kd.R_mono HO121.out (fun _ hk => trivial), (bC2 HB GE115.out GE117.out)⟩
             ·replace c47 := Bool.eq_false_iff.mpr c47
              subst c47
              have H1 : (spec_l22Stay.l1 kj18 l0 x4_2 x5_2 ((rd_T35 l0 x5_2).f0) ((rd_T35 l0 x5_2).f1) ((rd_T35 l0 (ji16)).f0) ((rd_T35 l0 (ji16)).f1)) = some (r1, r2) := by rw [if_neg (show ¬ (false = true) by decide)] at H; exact H
              clear H; have H := H1; clear H1; have H' := Aside0.mk H; clear H; go_wp2; go_loopg [4] kj18 (fun kq v4 w' => ∃ (x4_4 : List (S35)) (x118000_4 : Int) (x118001_4 : Int), Aside0 (spec_l22Stay.l1 kq l0 x4_4 x5_2 ((rd_T35 l0 x5_2).f0) ((rd_T35 l0 x5_2).f1) x118000_4 x118001_4 = some (r1, r2)) ∧ Aside0 (kq ≤ kj18) ∧ Aside0 (Kd.R k35 35 w' w.heap.size (fun k_ => k_ ≠ gb115 ∧ k_ ≠ gb117) v4 x4_4) ∧ Aside0 (w'.heap[gb115]? = some (.cells #[.int .i64 ((rd_T35 l0 x5_2).f0), .int .i64 ((rd_T35 l0 x5_2).f1)] 35 (0, 0))) ∧ Aside0 (w'.heap[gb117]? = some (.cells #[.int .i64 x118000_4, .int .i64 x118001_4] 35 (0, 0))) ∧ Aside0 (Below w.heap.size w w'))
              case atStart => exact ⟨(x4_2), (((rd_T35 l0 (ji16)).f0)), (((rd_T35 l0 (ji16)).f1)), H', ⟨Nat.le_refl _⟩, ⟨by (with_reducible repeat (first | apply Kd.R_alloc | apply Kd.R_drewN | apply Kd.R_drew)); exact HO_4.out⟩, ⟨by (with_reducible repeat (first | refine blk_drewN ?_ _ | refine blk_drew ?_ | refine blk_alloc ?_ _)); exact BK115.out⟩, ⟨by (with_reducible repeat (first | refine blk_drewN ?_ _ | refine blk_drew ?_ | refine blk_alloc ?_ _)); exact BK117.out⟩, ⟨(bC2 HB GE115.out GE117.out)⟩⟩
              case round =>
               clear H'
               try clear c1
               try clear p1
               try clear q1
               try clear hx1
               try clear qi1
               try clear c2
               try clear p2
               try clear c3
               try clear c4
               try clear c5
               try clear c5b0
               try clear c5b1
               try clear p6
               try clear c8
               try clear p10
               try clear q10
               try clear hx10
               try clear qi10
               try clear c11
               try clear c11b0
               try clear c11b1
               try clear p11
               try clear q11
               try clear hx11
               try clear c14
               try clear c14b0
               try clear c15
               try clear c15b0
               try clear c17
               try clear c17b0
               try clear c18
               try clear c18b0
               try clear c23
               try clear c26
               try clear c27
               try clear c27b0
               try clear c27b1
               try clear c27b2
               try clear c28
               try clear c33
               try clear c33b0
               try clear c33b1
               try clear c34
               try clear c39
               try clear c44
               try clear c47
               try clear hcz21_0
               try clear hcz21_1
               try clear hcz24_0
               try clear hcz24_1
               try clear hcz29_0
               try clear hcz29_1
               try clear hcz31_0
               try clear hcz31_1
               try clear hcz32_0
               try clear hcz32_1
               try clear hcz35_0
               try clear hcz35_1
               try clear hcz37_0
               try clear hcz37_1
               try clear hcz38_0
               try clear hcz38_1
               try clear hcz40_0
               try clear hcz40_1
               try clear hcz42_0
               try clear hcz42_1
               try clear hcz43_0
               try clear hcz43_1
               try clear hcz45_0
               try clear hcz45_1
               try clear hfz21_0
               try clear hfz21_1
               try clear hfz24_0
               try clear hfz24_1
               try clear hfz29_0
               try clear hfz29_1
               try clear hfz31_0
               try clear hfz31_1
               try clear hfz32_0
               try clear hfz32_1
               try clear hfz35_0
               try clear hfz35_1
               try clear hfz37_0
               try clear hfz37_1
               try clear hfz38_0
               try clear hfz38_1
               try clear hfz40_0
               try clear hfz40_1
               try clear hfz42_0
               try clear hfz42_1
               try clear hfz43_0
               try clear hfz43_1
               try clear hfz45_0
               try clear hfz45_1
               try clear hx102_0
               try clear hx102_1
               try clear hx107_0
               try clear hx107_1
               try clear hx114_0
               try clear hx114_1
               try clear hx116_0
               try clear hx116_1
               try clear p1
               try clear p10
               try clear p102
               try clear p107
               try clear p11
               try clear p114
               try clear p116
               try clear p2
               try clear p6
               try clear q1
               try clear q10
               try clear q102
               try clear q107
               try clear q11
               try clear q114
               try clear q116
               obtain ⟨x4_4, x118000_4, x118001_4, HA, HK4, HO_4, BK115, BK117, HB⟩ := hrel
               cases gk with
               | zero => exact absurd HA.out (by simp [spec_l22Stay.l1])
               | succ k4 =>
                have H := HA.out; clear HA; simp only [spec_l22Stay.l1] at H
                by_cases c50 : (!(x118000_4 == ((rd_T35 l0 x5_2).f0)) || (!(x118001_4 == ((rd_T35 l0 x5_2).f1)))) = true
                ·rw [if_pos c50] at H
                 have c50b0 : (!(x118000_4 == ((rd_T35 l0 x5_2).f0)) || (!(x118001_4 == ((rd_T35 l0 x5_2).f1)))) = true := c50; clear c50; replace H := Option.bind_eq_some_iff.mp H; obtain ⟨t122, A510, H⟩ := H; replace H : ((spec_l2Sign.f (wrap64 (((rd_T35 l0 x5_2).f1) - x118001_4))).bind fun t123 => (if x4_4.length < 8796093022208 then (spec_l22Stay.l1 k4 l0 (x4_4 ++ [(⟨wrap64 (x118000_4 + t122), wrap64 (x118001_4 + t123)⟩ : S35)]) x5_2 ((rd_T35 l0 x5_2).f0) ((rd_T35 l0 x5_2).f1) (wrap64 (x118000_4 + t122)) (wrap64 (x118001_4 + t123))) else (none))) = some (r1, r2) := H; have A51 := Aside0.mk A510; clear A510; replace H := Option.bind_eq_some_iff.mp H; obtain ⟨t123, A520, H⟩ := H; replace H : (if x4_4.length < 8796093022208 then (spec_l22Stay.l1 k4 l0 (x4_4 ++ [(⟨wrap64 (x118000_4 + t122), wrap64 (x118001_4 + t123)⟩ : S35)]) x5_2 ((rd_T35 l0 x5_2).f0) ((rd_T35 l0 x5_2).f1) (wrap64 (x118000_4 + t122)) (wrap64 (x118001_4 + t123))) else (none)) = some (r1, r2) := H; have A52 := Aside0.mk A520; clear A520
                 by_cases c53 : x4_4.length < 8796093022208
                 ·rw [if_pos c53] at H
                  have LMc53 := Aside0.mk c53; clear c53; obtain ⟨y124, hy124⟩ : ∃ y_ : List (S35), y_ = (x4_4 ++ [(⟨wrap64 (x118000_4 + t122), wrap64 (x118001_4 + t123)⟩ : S35)]) := ⟨_, rfl⟩
                  replace H : (spec_l22Stay.l1 k4 l0 y124 x5_2 ((rd_T35 l0 x5_2).f0) ((rd_T35 l0 x5_2).f1) (wrap64 (x118000_4 + t122)) (wrap64 (x118001_4 + t123))) = some (r1, r2) := by first | (rw [hy124]; with_reducible exact H) | (have H2_ := (Option.bind_some _ _).symm.trans H; rw [hy124]; with_reducible exact H2_) | (have H2_ := (Option.bind_some _ _).symm.trans H; with_reducible exact H2_) | with_reducible exact H | (rw [hy124]; exact H) | exact H
                  have Ny124 := Aside0.mk hy124; clear hy124; have H' := Aside0.mk H; clear H; have hnb54 := NB117_115.out; have hnc54 := NB115_117.out; have hcz55_0 : wr.cell? ⟨gb117, 0, none⟩ = some (.int .i64 x118000_4) := (blk_cell BK117.out 0).trans rfl; have hcz55_1 : wr.cell? ⟨gb117, 1, none⟩ = some (.int .i64 x118001_4) := (blk_cell BK117.out 1).trans rfl; have hfz55_0 := blk_frozen BK117.out 0; have hfz55_1 := blk_frozen BK117.out 1; have hcz56_0 : wr.cell? ⟨gb115, 0, none⟩ = some (.int .i64 ((rd_T35 l0 x5_2).f0)) := (blk_cell BK115.out 0).trans rfl; have hcz56_1 : wr.cell? ⟨gb115, 1, none⟩ = some (.int .i64 ((rd_T35 l0 x5_2).f1)) := (blk_cell BK115.out 1).trans rfl; have hfz56_0 := blk_frozen BK115.out 0; have hfz56_1 := blk_frozen BK115.out 1
                  try go_wp2
                  have n0_ := Aside0.mk (Kd.R_drew HO_4.out); have n1_ := Aside0.mk (blk_drew BK115.out); have n2_ := Aside0.mk (blk_drew BK117.out); have n3_ := Aside0.mk (below_drew1 HB.out); clear HO_4; clear BK115; clear BK117; clear HB; have HO_4 := n0_; have BK115 := n1_; have BK117 := n2_; have HB := n3_; clear n0_ n1_ n2_ n3_; refine start_ (n := 20) (S := fun w' => w'.cell? ⟨gb117, 0, none⟩ = some (.int .i64 x118000_4) ∧ w'.cell? ⟨gb117, 1, none⟩ = some (.int .i64 x118001_4) ∧ w'.cell? ⟨gb115, 0, none⟩ = some (.int .i64 ((rd_T35 l0 x5_2).f0)) ∧ w'.cell? ⟨gb115, 1, none⟩ = some (.int .i64 ((rd_T35 l0 x5_2).f1))) (ds := [19]) #[false, false, false, false, false, false, false, false, false, false, false, false, false, false, false, false, false, false, false, false] (by kernel_rfl) rfl rfl ⟨(blk_cell BK117.out 0).trans rfl, (blk_cell BK117.out 1).trans rfl, (blk_cell BK115.out 0).trans rfl, (blk_cell BK115.out 1).trans rfl⟩ (fun hHeld => ?_); refine with_tabW spec_l22Stay.tab12 spec_l22Stay.bits12 (fun HT_ HW_ => ?_); generalize wr.drew = w57 at HO_4 BK115 BK117 HB hHeld ⊢; refine pure_ (i := 0) (N := some 65) (v := ?_) (a' := ?_) #[true, false, false, false, false, false, false, false, false, false, false, false, false, false, false, false, false, false, false, false] rfl rfl (any_of HT_.out (by kernel_rfl)) (fun _ _ _ h => h) (Or.inl ⟨by rfl, ?_⟩) ?_ ?_
                  rotate_left
                  ·intro w'; go_simp; with_reducible rfl
                  rotate_left
                  ·simp only [Act.put, List.setIfInBounds_toArray, List.set_cons_zero, List.set_cons_succ, i64_w, i32_w]; rfl
                  refine pure_ (i := 2) (N := some 67) (v := ?_) (a' := ?_) #[true, false, true, false, false, false, false, false, false, false, false, false, false, false, false, false, false, false, false, false] rfl rfl (any_of HT_.out (by kernel_rfl)) (fun _ _ _ h => h) (Or.inl ⟨by rfl, ?_⟩) ?_ ?_
                  rotate_left
                  ·intro w'; go_simp; with_reducible rfl
                  rotate_left
                  ·simp only [Act.put, List.setIfInBounds_toArray, List.set_cons_zero, List.set_cons_succ, i64_w, i32_w]; rfl
                  refine pure_ (i := 4) (N := some 69) (v := ?_) (a' := ?_) #[true, false, true, false, true, false, false, false, false, false, false, false, false, false, false, false, false, false, false, false] rfl rfl (any_of HT_.out (by kernel_rfl)) (fun _ _ _ h => h) (Or.inl ⟨by rfl, ?_⟩) ?_ ?_
                  rotate_left
                  ·intro w'; go_simp; with_reducible rfl
                  rotate_left
                  ·simp only [Act.put, List.setIfInBounds_toArray, List.set_cons_zero, List.set_cons_succ, i64_w, i32_w]; rfl
                  refine pure_ (i := 9) (N := some 74) (v := ?_) (a' := ?_) #[true, false, true, false, true, false, false, false, false, true, false, false, false, false, false, false, false, false, false, false] rfl rfl (any_of HT_.out (by kernel_rfl)) (fun _ _ _ h => h) (Or.inl ⟨by rfl, ?_⟩) ?_ ?_
                  rotate_left
                  ·intro w'; go_simp; with_reducible rfl
                  rotate_left
                  ·simp only [Act.put, List.setIfInBounds_toArray, List.set_cons_zero, List.set_cons_succ, i64_w, i32_w]; rfl
                  refine pure_ (i := 11) (N := some 76) (v := ?_) (a' := ?_) #[true, false, true, false, true, false, false, false, false, true, false, true, false, false, false, false, false, false, false, false] rfl rfl (any_of HT_.out (by kernel_rfl)) (fun _ _ _ h => h) (Or.inl ⟨by rfl, ?_⟩) ?_ ?_
                  rotate_left
                  ·intro w'; go_simp; with_reducible rfl
                  rotate_left
                  ·simp only [Act.put, List.setIfInBounds_toArray, List.set_cons_zero, List.set_cons_succ, i64_w, i32_w]; rfl
                  refine pure_ (i := 13) (N := some 78) (v := ?_) (a' := ?_) #[true, false, true, false, true, false, false, false, false, true, false, true, false, true, false, false, false, false, false, false] rfl rfl (any_of HT_.out (by kernel_rfl)) (fun _ _ _ h => h) (Or.inl ⟨by rfl, ?_⟩) ?_ ?_
                  rotate_left
                  ·intro w'; go_simp; with_reducible rfl
                  rotate_left
                  ·simp only [Act.put, List.setIfInBounds_toArray, List.set_cons_zero, List.set_cons_succ, i64_w, i32_w]; rfl
                  refine take_ (i := 1) (N := some 66) (v := ?_) (a' := ?_) #[true, true, true, false, true, false, false, false, false, true, false, true, false, true, false, false, false, false, false, false] rfl rfl (take_ofW HT_.out HW_.out (by kernel_rfl)) (fun _ _ _ h => h) (Or.inl ⟨by rfl, ?_⟩) hHeld ?_ ?_
                  rotate_left
                  ·rintro w' ⟨s0, s1, s2, s3⟩; go_simp; with_reducible rfl
                  rotate_left
                  ·simp only [Act.put, List.setIfInBounds_toArray, List.set_cons_zero, List.set_cons_succ, i64_w, i32_w]; rfl
                  refine take_ (i := 3) (N := some 68) (v := ?_) (a' := ?_) #[true, true, true, true, true, false, false, false, false, true, false, true, false, true, false, false, false, false, false, false] rfl rfl (take_ofW HT_.out HW_.out (by kernel_rfl)) (fun _ _ _ h => h) (Or.inl ⟨by rfl, ?_⟩) hHeld ?_ ?_
                  rotate_left
                  ·rintro w' ⟨s0, s1, s2, s3⟩; go_simp; with_reducible rfl
                  rotate_left
                  ·simp only [Act.put, List.setIfInBounds_toArray, List.set_cons_zero, List.set_cons_succ, i64_w, i32_w]; rfl
                  refine take_ (i := 5) (N := some 70) (v := ?_) (a' := ?_) #[true, true, true, true, true, true, false, false, false, true, false, true, false, true, false, false, false, false, false, false] rfl rfl (take_ofW HT_.out HW_.out (by kernel_rfl)) (fun _ _ _ h => h) (Or.inl ⟨by rfl, ?_⟩) hHeld ?_ ?_
                  rotate_left
                  ·rintro w' ⟨s0, s1, s2, s3⟩; go_simp; with_reducible rfl
                  rotate_left
                  ·simp only [Act.put, List.setIfInBounds_toArray, List.set_cons_zero, List.set_cons_succ, i64_w, i32_w]; rfl
                  refine pure_ (i := 6) (N := some 71) (v := ?_) (a' := ?_) #[true, true, true, true, true, true, true, false, false, true, false, true, false, true, false, false, false, false, false, false] rfl rfl (any_of HT_.out (by kernel_rfl)) (fun _ _ _ h => h) (Or.inl ⟨by rfl, ?_⟩) ?_ ?_
                  rotate_left
                  ·intro w'; go_simp; with_reducible rfl
                  rotate_left
                  ·simp only [Act.put, List.setIfInBounds_toArray, List.set_cons_zero, List.set_cons_succ, i64_w, i32_w]; rfl
                  refine take_ (i := 10) (N := some 75) (v := ?_) (a' := ?_) #[true, true, true, true, true, true, true, false, false, true, true, true, false, true, false, false, false, false, false, false] rfl rfl (take_ofW HT_.out HW_.out (by kernel_rfl)) (fun _ _ _ h => h) (Or.inl ⟨by rfl, ?_⟩) hHeld ?_ ?_
                  rotate_left
                  ·rintro w' ⟨s0, s1, s2, s3⟩; go_simp; with_reducible rfl
                  rotate_left
                  ·simp only [Act.put, List.setIfInBounds_toArray, List.set_cons_zero, List.set_cons_succ, i64_w, i32_w]; rfl
                  refine take_ (i := 12) (N := some 77) (v := ?_) (a' := ?_) #[true, true, true, true, true, true, true, false, false, true, true, true, true, true, false, false, false, false, false, false] rfl rfl (take_ofW HT_.out HW_.out (by kernel_rfl)) (fun _ _ _ h => h) (Or.inl ⟨by rfl, ?_⟩) hHeld ?_ ?_
                  rotate_left
                  ·rintro w' ⟨s0, s1, s2, s3⟩; go_simp; with_reducible rfl
                  rotate_left
                  ·simp only [Act.put, List.setIfInBounds_toArray, List.set_cons_zero, List.set_cons_succ, i64_w, i32_w]; rfl
                  refine take_ (i := 14) (N := some 79) (v := ?_) (a' := ?_) #[true, true, true, true, true, true, true, false, false, true, true, true, true, true, true, false, false, false, false, false] rfl rfl (take_ofW HT_.out HW_.out (by kernel_rfl)) (fun _ _ _ h => h) (Or.inl ⟨by rfl, ?_⟩) hHeld ?_ ?_
                  rotate_left
                  ·rintro w' ⟨s0, s1, s2, s3⟩; go_simp; with_reducible rfl
                  rotate_left
                  ·simp only [Act.put, List.setIfInBounds_toArray, List.set_cons_zero, List.set_cons_succ, i64_w, i32_w]; rfl
                  refine pure_ (i := 15) (N := some 80) (v := ?_) (a' := ?_) #[true, true, true, true, true, true, true, false, false, true, true, true, true, true, true, true, false, false, false, false] rfl rfl (any_of HT_.out (by kernel_rfl)) (fun _ _ _ h => h) (Or.inl ⟨by rfl, ?_⟩) ?_ ?_
                  rotate_left
                  ·intro w'; go_simp; with_reducible rfl
                  rotate_left
                  ·simp only [Act.put, List.setIfInBounds_toArray, List.set_cons_zero, List.set_cons_succ, i64_w, i32_w]; rfl
                  refine one_ (i := 7) (N := some 72) #[true, true, true, true, true, true, true, true, false, true, true, true, true, true, true, true, false, false, false, false] rfl rfl (one_of HT_.out (by kernel_rfl)) (by decide) (fun K hK => ?_); refine goes_ Tryd.func58 (by kernel_rfl) rfl #[.int .i64 (wrap64 (((rd_T35 l0 x5_2).f0) - x118000_4))] (by rfl) rfl rfl bM ?_
                  with_reducible refine (spec_l2Sign.calls (wrap64 (((rd_T35 l0 x5_2).f0) - x118000_4)) t122 _ A51.out).mono ?_
                  rintro e w' ⟨rfl, ⟨nd, rfl⟩⟩; refine ⟨_, rfl, ?_⟩; refine hK.out _ _ ⟨(blk_cell BK117.out 0).trans rfl, (blk_cell BK117.out 1).trans rfl, (blk_cell BK115.out 0).trans rfl, (blk_cell BK115.out 1).trans rfl⟩ (fun hHeld => ?_); clear hK K; refine norm_ (a' := ?_) ?_ ?_
                  rotate_left
                  ·show Act.put _ (some 72) _ = _
                   simp only [Act.put, List.setIfInBounds_toArray, List.set_cons_zero, List.set_cons_succ, i64_w, i32_w]; rfl
                  refine pure_ (i := 8) (N := some 73) (v := ?_) (a' := ?_) #[true, true, true, true, true, true, true, true, true, true, true, true, true, true, true, true, false, false, false, false] rfl rfl (any_of HT_.out (by kernel_rfl)) (fun _ _ _ h => h) (Or.inl ⟨by rfl, ?_⟩) ?_ ?_
                  rotate_left
                  ·intro w'; go_simp; with_reducible rfl
                  rotate_left
                  ·simp only [Act.put, List.setIfInBounds_toArray, List.set_cons_zero, List.set_cons_succ, i64_w, i32_w]; rfl
                  refine one_ (i := 16) (N := some 81) #[true, true, true, true, true, true, true, true, true, true, true, true, true, true, true, true, true, false, false, false] rfl rfl (one_of HT_.out (by kernel_rfl)) (by decide) (fun K hK => ?_); refine goes_ Tryd.func58 (by kernel_rfl) rfl #[.int .i64 (wrap64 (((rd_T35 l0 x5_2).f1) - x118001_4))] (by rfl) rfl rfl bM ?_
                  with_reducible refine (spec_l2Sign.calls (wrap64 (((rd_T35 l0 x5_2).f1) - x118001_4)) t123 _ A52.out).mono ?_
                  rintro e w' ⟨rfl, ⟨nd, rfl⟩⟩; refine ⟨_, rfl, ?_⟩; refine hK.out _ _ ⟨(blk_cell BK117.out 0).trans rfl, (blk_cell BK117.out 1).trans rfl, (blk_cell BK115.out 0).trans rfl, (blk_cell BK115.out 1).trans rfl⟩ (fun hHeld => ?_); clear hK K; refine norm_ (a' := ?_) ?_ ?_
                  rotate_left
                  ·show Act.put _ (some 81) _ = _
                   simp only [Act.put, List.setIfInBounds_toArray, List.set_cons_zero, List.set_cons_succ, i64_w, i32_w]; rfl
                  refine pure_ (i := 17) (N := some 82) (v := ?_) (a' := ?_) #[true, true, true, true, true, true, true, true, true, true, true, true, true, true, true, true, true, true, false, false] rfl rfl (any_of HT_.out (by kernel_rfl)) (fun _ _ _ h => h) (Or.inl ⟨by rfl, ?_⟩) ?_ ?_
                  rotate_left
                  ·intro w'; go_simp; with_reducible rfl
                  rotate_left
                  ·simp only [Act.put, List.setIfInBounds_toArray, List.set_cons_zero, List.set_cons_succ, i64_w, i32_w]; rfl
                  refine pure_ (i := 18) (N := some 83) (v := ?_) (a' := ?_) #[true, true, true, true, true, true, true, true, true, true, true, true, true, true, true, true, true, true, true, false] rfl rfl (any_of HT_.out (by kernel_rfl)) (fun _ _ _ h => h) (Or.inl ⟨by rfl, ?_⟩) ?_ ?_
                  rotate_left
                  ·intro w'; go_simp; with_reducible rfl
                  rotate_left
                  ·simp only [Act.put, List.setIfInBounds_toArray, List.set_cons_zero, List.set_cons_succ, i64_w, i32_w]; rfl
                  refine last_ (i := 19) (N := none) #[true, true, true, true, true, true, true, true, true, true, true, true, true, true, true, true, true, true, true, true] rfl rfl (one_of HT_.out (by kernel_rfl)) (by decide) (fun K hK => ?_); have hs58 : w57.cell? ⟨gb117, 0, none⟩ = some (.int .i64 x118000_4) := (blk_cell BK117.out 0).trans rfl; have hfs58 := blk_frozen BK117.out 0; have hns58_0 := NB115_117.out; have hms58_0 := NB117_115.out; have hs59 : w57.cell? ⟨gb117, 1, none⟩ = some (.int .i64 x118001_4) := (blk_cell BK117.out 1).trans rfl; have hfs59 := blk_frozen BK117.out 1; have hns59_0 := NB115_117.out; have hms59_0 := NB117_115.out; refine skip_ (w1 := ?_) (by rfl) rfl ?_ ?_
                  rotate_left
                  ·go_simp; rfl
                  refine hK.out _ _ ?_; clear hK K; refine done_ (done_of HT_.out (by kernel_rfl)) ?_; have hcz60_0 : w57.cell? ⟨gb117, 0, none⟩ = some (.int .i64 x118000_4) := (blk_cell BK117.out 0).trans rfl; have hcz60_1 : w57.cell? ⟨gb117, 1, none⟩ = some (.int .i64 x118001_4) := (blk_cell BK117.out 1).trans rfl; have hfz60_0 := blk_frozen BK117.out 0; have hfz60_1 := blk_frozen BK117.out 1
                  try go_wp2_with (first | ((with_reducible refine gate_builtin (b := .append) (xs := #[.tmp 84, .tmp 86]) rfl ?_); at_builtin; refine Kd.R_append k35 (w0 := w) w.heap.size rfl (.tmp 84) (.tmp 86) 25 35 (.agg #[(.int .i64 0), (.int .i64 0)]) 16 rfl Tryd.underlying25 info35 rfl (by decide) (by omega) u4 x4_4 (⟨wrap64 (x118000_4 + t122), wrap64 (x118001_4 + t123)⟩ : S35) [.int .i64 (wrap64 (x118000_4 + t122)), .int .i64 (wrap64 (x118001_4 + t123))] (fun k_ => k_ ≠ gb115 ∧ k_ ≠ gb117) (fun _ => False) rfl (by first | (go_simp; done) | (go_simp; rfl)) ?aP (fun _ hk => hk.elim) ?aF ?aO ?aB ?aS ?aL ?_; (case aP => exact k35_mkM _ _ _ (⟨wrap64 (x118000_4 + t122), wrap64 (x118001_4 + t123)⟩ : S35)); (case aB => exact (bC2 HB GE115.out GE117.out)); (case aF => exact (fun k_ hk => ⟨Kd.freshB (g := gb115) (o := .cells #[.int .i64 ((rd_T35 l0 x5_2).f0), .int .i64 ((rd_T35 l0 x5_2).f1)] 35 (0, 0)) (by (with_reducible repeat (first | refine blk_drewN ?_ _ | refine blk_drew ?_ | refine blk_alloc ?_ _)); refine blk_far ?_ NB115_117.out _; (with_reducible repeat (first | refine blk_drewN ?_ _ | refine blk_drew ?_ | refine blk_alloc ?_ _)); refine blk_far ?_ NB115_117.out _; (with_reducible repeat (first | refine blk_drewN ?_ _ | refine blk_drew ?_ | refine blk_alloc ?_ _)); exact BK115.out) k_ hk, Kd.freshB (g := gb117) (o := .cells #[.int .i64 (wrap64 (x118000_4 + t122)), .int .i64 (wrap64 (x118001_4 + t123))] 35 (0, 0)) (by (with_reducible repeat (first | refine blk_drewN ?_ _ | refine blk_drew ?_ | refine blk_alloc ?_ _)); refine blk_put (cs := #[.int .i64 (wrap64 (x118000_4 + t122)), .int .i64 x118001_4]) ?_ 1 _ rfl; (with_reducible repeat (first | refine blk_drewN ?_ _ | refine blk_drew ?_ | refine blk_alloc ?_ _)); refine blk_put (cs := #[.int .i64 x118000_4, .int .i64 x118001_4]) ?_ 0 _ rfl; (with_reducible repeat (first | refine blk_drewN ?_ _ | refine blk_drew ?_ | refine blk_alloc ?_ _)); exact BK117.out) k_ hk⟩)); (case aO => exact (by (with_reducible repeat (first | apply Kd.R_alloc | apply Kd.R_drewN | apply Kd.R_drew)); exact Kd.R_mono (Kd.R_far (p := ⟨gb117, 1, none⟩) (Kd.R_far (p := ⟨gb117, 0, none⟩) (Kd.R_mono HO_4.out (fun k_ hk => (⟨hk, hk.2⟩ : _ ∧ k_ ≠ gb117))) (fun _ hk => hk.2) (.int .i64 (wrap64 (x118000_4 + t122)))) (fun _ hk => hk.2) (.int .i64 (wrap64 (x118001_4 + t123)))) (fun _ hk => ⟨hk.1.1, hk.1.2⟩))); (case aS => exact (below_size (bC2 HB GE115.out GE117.out))); (case aL => have := LMc53.out; omega); intro v125 w61 ho hb hg hat; rw [← Ny124.out] at ho; have n0_ := Aside0.mk (blk_grown (g := gb115) (o := .cells #[.int .i64 ((rd_T35 l0 x5_2).f0), .int .i64 ((rd_T35 l0 x5_2).f1)] 35 (0, 0)) (by (with_reducible repeat (first | refine blk_drewN ?_ _ | refine blk_drew ?_ | refine blk_alloc ?_ _)); refine blk_far ?_ NB115_117.out _; (with_reducible repeat (first | refine blk_drewN ?_ _ | refine blk_drew ?_ | refine blk_alloc ?_ _)); refine blk_far ?_ NB115_117.out _; (with_reducible repeat (first | refine blk_drewN ?_ _ | refine blk_drew ?_ | refine blk_alloc ?_ _)); exact BK115.out) hg (Kd.R_away HO_4.out (fun _ hk => hk.1))); have n1_ := Aside0.mk (blk_grown (g := gb117) (o := .cells #[.int .i64 (wrap64 (x118000_4 + t122)), .int .i64 (wrap64 (x118001_4 + t123))] 35 (0, 0)) (by (with_reducible repeat (first | refine blk_drewN ?_ _ | refine blk_drew ?_ | refine blk_alloc ?_ _)); refine blk_put (cs := #[.int .i64 (wrap64 (x118000_4 + t122)), .int .i64 x118001_4]) ?_ 1 _ rfl; (with_reducible repeat (first | refine blk_drewN ?_ _ | refine blk_drew ?_ | refine blk_alloc ?_ _)); refine blk_put (cs := #[.int .i64 x118000_4, .int .i64 x118001_4]) ?_ 0 _ rfl; (with_reducible repeat (first | refine blk_drewN ?_ _ | refine blk_drew ?_ | refine blk_alloc ?_ _)); exact BK117.out) hg (Kd.R_away HO_4.out (fun _ hk => hk.2))); have n2_ := Aside0.mk (hb); have n3_ := Aside0.mk (ho); clear BK115; clear BK117; clear HB; clear HO_4; have BK115 := n0_; have BK117 := n1_; have HB := n2_; have HO126 := n3_; clear n0_ n1_ n2_ n3_; clear ho hb hg hat))
                  go_roundg k4
                  case measure => have := HJ1.out; have := HK2.out; have := HJ18.out; have := HK4.out; omega
                  case rel => exact ⟨(y124), (wrap64 (x118000_4 + t122)), (wrap64 (x118001_4 + t123)), H', ⟨by have := HJ1.out; have := HK2.out; have := HJ18.out; have := HK4.out; omega⟩, ⟨by (with_reducible repeat (first | apply Kd.R_alloc | apply Kd.R_drewN | apply Kd.R_drew)); exact HO126.out⟩, ⟨by (with_reducible repeat (first | refine blk_drewN ?_ _ | refine blk_drew ?_ | refine blk_alloc ?_ _)); exact BK115.out⟩, ⟨by (with_reducible repeat (first | refine blk_drewN ?_ _ | refine blk_drew ?_ | refine blk_alloc ?_ _)); exact BK117.out⟩, ⟨(bC2 HB GE115.out GE117.out)⟩⟩
                 ·rw [if_neg c53] at H; exact absurd H (by simp)
                ·rw [if_neg c50] at H
                 have c50b0 : (!(x118000_4 == ((rd_T35 l0 x5_2).f0)) || (!(x118001_4 == ((rd_T35 l0 x5_2).f1)))) = false := by simpa using c50
                 clear c50; have H' := Aside0.mk H; clear H; have hnb62 := NB117_115.out; have hnc62 := NB115_117.out; have hcz63_0 : wr.cell? ⟨gb117, 0, none⟩ = some (.int .i64 x118000_4) := (blk_cell BK117.out 0).trans rfl; have hcz63_1 : wr.cell? ⟨gb117, 1, none⟩ = some (.int .i64 x118001_4) := (blk_cell BK117.out 1).trans rfl; have hfz63_0 := blk_frozen BK117.out 0; have hfz63_1 := blk_frozen BK117.out 1; have hcz64_0 : wr.cell? ⟨gb115, 0, none⟩ = some (.int .i64 ((rd_T35 l0 x5_2).f0)) := (blk_cell BK115.out 0).trans rfl; have hcz64_1 : wr.cell? ⟨gb115, 1, none⟩ = some (.int .i64 ((rd_T35 l0 x5_2).f1)) := (blk_cell BK115.out 1).trans rfl; have hfz64_0 := blk_frozen BK115.out 0; have hfz64_1 := blk_frozen BK115.out 1; go_wp2; go_roundg k4
                 case measure => have := HJ1.out; have := HK2.out; have := HJ18.out; have := HK4.out; omega
                 case rel => exact ⟨(x4_4), (wrap64 (x5_2 + 1)), (by first | rfl | (simp; done) | (simp [*]; done)), H', ⟨by have := HJ1.out; have := HK2.out; have := HJ18.out; have := HK4.out; omega⟩, ⟨by (with_reducible repeat (first | apply Kd.R_alloc | apply Kd.R_drewN | apply Kd.R_drew)); exact Kd.R_mono HO_4.out (fun _ hk => trivial)⟩, ⟨(bC2 HB GE115.out GE117.out)⟩⟩
          ·rw [if_neg c18] at H; exact absurd H (by simp)
         ·rw [if_neg c17] at H; exact absurd H (by simp)
        ·rw [if_neg c15] at H; exact absurd H (by simp)
       ·rw [if_neg c14] at H
        have c14b0 : decide (x5_2 < (l0.length : Int)) = false := decide_eq_false c14; clear c14
        by_cases c65 : (x4_2.length : Int) > 400
        ·rw [if_pos c65] at H
         have c65b0 : decide (400 < (x4_2.length : Int)) = true := decide_eq_true c65; have c65b1 : decide (400 < x4_2.length) = true := decide_eq_true (by omega); clear c65; obtain ⟨y111, hy111⟩ : ∃ y_ : List (S35), y_ = (([] : List (S35))) := ⟨_, rfl⟩
         replace H : (some (y111, false)) = some (r1, r2) := by first | (rw [hy111]; with_reducible exact H) | (have H2_ := (Option.bind_some _ _).symm.trans H; rw [hy111]; with_reducible exact H2_) | (have H2_ := (Option.bind_some _ _).symm.trans H; with_reducible exact H2_) | with_reducible exact H | (rw [hy111]; exact H) | exact H
         have Ny111 := Aside0.mk hy111; clear hy111; simp only [Option.some.injEq, Prod.mk.injEq] at H; obtain ⟨rfl, rfl⟩ := H; obtain ⟨Ao66, co66, eo66⟩ := Kd.R_slice HO_4.out; subst eo66; go_wp2_with (first | ((with_reducible refine gate_dst (N := 91) rfl ?_); refine Kd.R_lit k35 _ 35 ?hg (N := 91) ?hd (xs := ([] : List (S35))) (inner := []) (ok := fun _ => True) (okp := fun _ => True) ?hr ?hp (fun _ hk => hk) trivial (Below.refl _ _) (Nat.le_refl _) (by simp) ?_; (case hd => rfl); (case hg => rfl); (case hr => first | (go_simp; done) | (go_simp; rfl)); (case hp => exact (Reps.none _ _)); intro v112 w67 ho68 hb hg_ hnew_; clear hg_ hnew_; (first | rw [← Ny111.out] at ho68 | (simp only [Int.reduceToNat] at ho68; rw [← Ny111.out] at ho68)); have n0_ := Aside0.mk (Kd.R_elder' (bR HO_4) (Kd.R_base ho68) hb); have n1_ := Aside0.mk (Kd.R_lower (Kd.R_new' ho68 (Kd.R_lt (bR HO_4))) (below_size (bC0 HB))); have n2_ := Aside0.mk (below_step (bC0 HB) hb); clear HO_4; clear HB; have HO_4 := n0_; have HO113 := n1_; have HB := n2_; clear n0_ n1_ n2_; clear hb ho68)); go_ret2
         exact ⟨_, bE, by (with_reducible repeat (first | apply Kd.R_alloc | apply Kd.R_drewN | apply Kd.R_drew)); exact Kd.R_mono HO113.out (fun _ hk => trivial), (bC0 HB)⟩
        ·rw [if_neg c65] at H
         have c65b0 : decide (400 < (x4_2.length : Int)) = false := decide_eq_false c65; have c65b1 : decide (400 < x4_2.length) = false := decide_eq_false (by omega); clear c65; simp only [Option.some.injEq, Prod.mk.injEq] at H; obtain ⟨rfl, rfl⟩ := H; obtain ⟨Ao69, co69, eo69⟩ := Kd.R_slice HO_4.out; subst eo69; go_wp2; go_ret2
         exact ⟨_, bE, by (with_reducible repeat (first | apply Kd.R_alloc | apply Kd.R_drewN | apply Kd.R_drew)); exact HO_4.out, (bC0 HB)⟩
    ·rw [if_neg c11] at H; exact absurd H (by simp)
set_option linter.unusedVariables false
set_option linter.unusedSimpArgs false
def cutStep (c : Int) (acc : List ByteArray) (b : UInt8) : List ByteArray :=
  if (b.toNat : Int) = c then acc ++ [⟨#[]⟩] else acc.set (acc.length - 1) (acc.getD (acc.length - 1) ByteArray.empty ++ ⟨#[b]⟩)
def cutAt (c : Int) (l : List UInt8) : List ByteArray := l.foldl (cutStep c) [⟨#[]⟩]
theorem cutStep_len (c : Int) (acc : List ByteArray) (b : UInt8) : acc.length ≤ (cutStep c acc b).length ∧ (cutStep c acc b).length ≤ acc.length + 1 := by
  unfold cutStep; split <;> simp
theorem cutAt_snoc (c : Int) (l : List UInt8) (b : UInt8) : cutAt c (l ++ [b]) = cutStep c (cutAt c l) b := by simp [cutAt]
theorem snoc_ind {α : Type} {P : List α → Prop} (h0 : P []) (h1 : ∀ l b, P l → P (l ++ [b])) (l : List α) : P l := by
  have key : ∀ m : List α, P m.reverse := fun m => by
    induction m with
    | nil => exact h0
    | cons b m ih => rw [List.reverse_cons]; exact h1 _ _ ih
  have := key l.reverse
  rwa [List.reverse_reverse] at this
theorem cutAt_len (c : Int) (l : List UInt8) : 1 ≤ (cutAt c l).length ∧ (cutAt c l).length ≤ l.length + 1 := by
  induction l using snoc_ind with
  | h0 => simp [cutAt]
  | h1 l b ih => rw [cutAt_snoc]; have := cutStep_len c (cutAt c l) b; simp; omega
theorem cutAt_size (c : Int) (l : List UInt8) : ∀ p ∈ cutAt c l, p.size ≤ l.length := by
  induction l using snoc_ind with
  | h0 => simp [cutAt]; rfl
  | h1 l b ih =>
    rw [cutAt_snoc]
    intro p hp
    unfold cutStep at hp
    rw [List.length_append, List.length_singleton]
    split at hp
    · rcases List.mem_append.1 hp with h | h
      · have := ih p h; omega
      · simp at h; subst h; show 0 ≤ _; omega
    · rcases List.mem_or_eq_of_mem_set hp with h | h
      · have := ih p h; omega
      · subst h
        rw [ByteArray.size_append]
        have hl := cutAt_len c l
        have := ih _ (show (cutAt c l).getD ((cutAt c l).length - 1) ByteArray.empty ∈ cutAt c l by
          rw [List.getD_eq_getElem?_getD, List.getElem?_eq_getElem (by omega)]; exact List.getElem_mem _)
        show _ + 1 ≤ _
        omega
theorem cutInfo : (Tryd.prog.info? 9).map (fun i => (i.zero, i.size, i.bytes)) = some (some (.string ⟨#[]⟩), 1, 16) := by kernel_rfl
theorem conv_one (W : World) (b : Nat) (x : UInt8) (hW : W.cell? ⟨b, 0, none⟩ = some (.int .u8 (x.toNat : Int))) : (convert 29 9 (.slice (some ⟨b, 0, none⟩) 1 1)).run Tryd.prog W = .ok (.string ⟨#[x]⟩) W := by
  rw [run_convert_bytes_arg (P := Tryd.prog) W 29 5 Tryd.underlying29 Tryd.underlying5 b 0 1 1 [(x.toNat : Int)] rfl (fun j hj => by
    have h0 : j = 0 := by omega
    rw [h0]
    exact hW) 9 Tryd.underlying9]
  simp [strOfNums]
def spec_l3Cut.f (a0 : ByteArray) (a1 : Int) : Option (List ByteArray) := if a0.size ≤ 1048576 then some (cutAt a1 a0.data.toList) else none
set_option maxHeartbeats 4000000 in
set_option maxRecDepth 100000 in
theorem spec_l3Cut.calls (a0 : ByteArray) (a1 : Int) (r : List ByteArray) (w : World) (h : spec_l3Cut.f a0 a1 = some r) :
  Calls Tryd.prog 49 #[.string a0, .int .u8 a1] w fun e w' => ∃ v0_ : Value, e = .returned (v0_) ∧ Kd.R Kd.string 9 w' w.heap.size (fun _ => True) v0_ r ∧ Below w.heap.size w w' := by
 have hs : a0.size ≤ 1048576 := by
  unfold spec_l3Cut.f at h
  by_cases h1 : a0.size ≤ 1048576
  ·exact h1
  ·rw [if_neg h1] at h; cases h
 obtain rfl : cutAt a1 a0.data.toList = r := by unfold spec_l3Cut.f at h; rw [if_pos hs] at h; exact Option.some.inj h
 clear h; obtain ⟨i0, hi0, hz0, hz1, hz2⟩ := info_parts cutInfo; go_enter Tryd.func49, Tryd.ntmps49; go_wp2
 have hrow : (w.alloc (.cells #[.string ⟨#[]⟩] 9)).ownsRow w.heap.size 9 1 (.slice (some ⟨w.heap.size, 0, none⟩) 1 1) 1 (encs Value.string (cutAt a1 (a0.data.toList.take 0))) :=
  ⟨rfl, .inr ⟨w.heap.size, 1, #[.string ⟨#[]⟩], rfl, Nat.le_refl _, heap_alloc_new w _, Nat.le_refl _, by decide, rfl, rfl⟩⟩
 have hb0 : Below w.heap.size w (w.alloc (.cells #[.string ⟨#[]⟩] 9)) := (Below.refl _ w).alloc (Nat.le_refl _) _; have HR0 := Lib.hid hrow; have HB0 := Lib.hid hb0; clear hrow hb0; generalize (w.alloc (.cells #[.string ⟨#[]⟩] 9)) = w0 at HR0 HB0 ⊢; go_loopw [5, 6, 8, 9, 10, 11, 12, 13, 14, 15, 16, 17, 18, 19, 20, 21, 22, 23, 24, 25, 26, 27, 28, 29, 30, 31, 32, 33, 34, 35, 36, 37, 38] (fun v5 v6 v8 v9 v10 v11 v12 v13 v14 v15 v16 v17 v18 v19 v20 v21 v22 v23 v24 v25 v26 v27 v28 v29 v30 v31 v32 v33 v34 v35 v36 v37 v38 w' => ∃ i g cap : Nat, i ≤ a0.size ∧ v6 = .int .i64 i ∧ v5 = .slice (some ⟨g, 0, none⟩) (cutAt a1 (a0.data.toList.take i)).length cap ∧ Hid (Below w.heap.size w w') ∧
   Hid (w'.ownsRow w.heap.size 9 1 (.slice (some ⟨g, 0, none⟩) (cutAt a1 (a0.data.toList.take i)).length cap) (cutAt a1 (a0.data.toList.take i)).length (encs Value.string (cutAt a1 (a0.data.toList.take i))))) (fun _ v6 _ _ _ _ _ _ _ _ _ _ _ _ _ _ _ _ _ _ _ _ _ _ _ _ _ _ _ _ _ _ _ _ => a0.size - (intOf v6).toNat)
 case atStart => exact ⟨0, w.heap.size, 1, Nat.zero_le _, rfl, rfl, HB0, HR0⟩
 case round =>
  obtain ⟨i, g, cap, hi, rfl, rfl, HB, HR⟩ := hrel
  by_cases hlt : i < a0.size
  ·have hl := cutAt_len a1 (a0.data.toList.take i)
   have htk : (a0.data.toList.take i).length ≤ i := List.length_take_le _ _
   have hsn : cutAt a1 (a0.data.toList.take (i + 1)) = cutStep a1 (cutAt a1 (a0.data.toList.take i)) a0[i] := by
    rw [List.take_succ_eq_append_getElem (by simpa using hlt), cutAt_snoc]; rfl
   have HS := Lib.hid hsn; clear hsn; have hsz := cutAt_size a1 (a0.data.toList.take i); have HZ := Lib.hid hsz; clear hsz; generalize cutAt a1 (a0.data.toList.take i) = xs at HR HS HZ hl ⊢
   by_cases hc : (a0[i].toNat : Int) = a1
   ·have hcb : ((a0[i].toNat : Int) == a1) = true := beq_iff_eq.2 hc
    have HC := Lib.hid hc; clear hc; have hlt0 := HB.out.size; go_wp2_with (at_builtin; refine wpList_append_own _ rfl _ _ 64 rfl w.heap.size 9 i0 (.string ⟨#[]⟩) 1 16 Tryd.underlying64 hi0 hz0 hz1 hz2 rfl (by decide) _ _ _ rfl (HR.out.alloc _) ⟨wr.heap.size, 0, none⟩ 1 1 [.string ⟨#[]⟩] rfl rfl ?c1 ?c2 ?c3 ?c4 ?c5 ?_)
    case c1 => exact cell_one_new _ _ _
    case c2 => simp [Value.oneCell']
    case c3 => unfold maxLen; omega
    case c4 => omega
    case c5 => simp; omega
    intro v' w2 hown' hgrow _; obtain ⟨g', cap', rfl⟩ := ownsRow_succ hown'; have hb2 : Below w.heap.size w w2 := (HB.out.alloc hlt0 _).grown hgrow (by simp; omega) (fun k hk => (HR.out.lt k hk).1)
    have hx2 : xs ++ [⟨#[]⟩] = cutAt a1 (a0.data.toList.take (i + 1)) := by rw [HS.out, cutStep, if_pos HC.out]
    rw [show encs Value.string xs ++ [Value.string ⟨#[]⟩] = encs Value.string (xs ++ [⟨#[]⟩]) by rw [encs_append]; rfl, show xs.length + 1 = (xs ++ [(⟨#[]⟩ : ByteArray)]).length by simp, hx2] at hown'; rw [show xs.length + 1 = (xs ++ [(⟨#[]⟩ : ByteArray)]).length by simp, hx2]; have HR2 := Lib.hid hown'; have HB2 := Lib.hid hb2; clear hown' hb2 hgrow hx2; go_wp2; go_roundw
    case rel => exact ⟨i + 1, g', cap', by omega, by go_num, rfl, HB2, HR2⟩
    case measure => simp [intOf]; omega
   ·have hcb : ((a0[i].toNat : Int) == a1) = false := beq_eq_false_iff_ne.2 hc
    have HC := Lib.hid hc; clear hc; have hlt0 := HB.out.size; have hx := own_at_of (d := ByteArray.empty) HR.out ((xs.length - 1 : Nat) : Int) (by omega) (by omega); obtain ⟨hc1, hf1⟩ := hx; rw [Int.toNat_natCast] at hc1 hf1
    have e1 : IntKind.i64.wrap ((xs.length : Int) - 1) = ((xs.length - 1 : Nat) : Int) := by rw [show ((xs.length : Int) - 1) = ((xs.length - 1 : Nat) : Int) by omega]; exact IntWalk.i64_in _ (by omega)
    have b1 : (0 : Int) ≤ ((xs.length - 1 : Nat) : Int) := by omega
    have b2 : ((xs.length - 1 : Nat) : Int) < (xs.length : Int) := by omega
    have hcv : ∀ W : World, W.cell? ⟨wr.heap.size, 0, none⟩ = some (.int .u8 (a0[i].toNat : Int)) → (convert 29 9 (.slice (some ⟨wr.heap.size, 0, none⟩) 1 1)).run Tryd.prog W = .ok (.string ⟨#[a0[i]]⟩) W := fun W hW => conv_one W _ _ hW
    have hg : g < wr.heap.size := (World.ownsRow.lt HR.out g rfl).2; obtain ⟨old, hold⟩ : ∃ old, old = rdOf ByteArray.empty xs ((xs.length - 1 : Nat) : Int) := ⟨_, rfl⟩; rw [← hold] at hc1
    have hos : old.size ≤ i := by
     rw [hold]
     have := HZ.out _ (show rdOf ByteArray.empty xs ((xs.length - 1 : Nat) : Int) ∈ xs by
      rw [rdOf, Int.toNat_natCast, List.getD_eq_getElem?_getD, List.getElem?_eq_getElem (by omega)]; exact List.getElem_mem _)
     omega
    have hof : (9223372036854775807 < old.size + 1) = False := eq_false (by omega); have HO := Lib.hid hold; clear hold; go_upto_region 7 with (fail); go_region; have hput := own_put_of (enc := Value.string) HR.out ((xs.length - 1 : Nat) : Int) (old ++ ⟨#[a0[i]]⟩); rw [Int.toNat_natCast] at hput
    have hx2 : xs.set (xs.length - 1) (old ++ ⟨#[a0[i]]⟩) = cutAt a1 (a0.data.toList.take (i + 1)) := by
     rw [HS.out, cutStep, if_neg HC.out, HO.out, rdOf, Int.toNat_natCast]
    have hln : (cutAt a1 (a0.data.toList.take (i + 1))).length = xs.length := by rw [← hx2, List.length_set]
    rw [hx2] at hput
    have hr2 : ((((wr.setCell ⟨g, xs.length - 1, none⟩ (.string (old ++ ⟨#[a0[i]]⟩))).alloc (.cells #[.int .u8 (a0[i].toNat : Int)] 5)).drew).ownsRow w.heap.size 9 1 (.slice (some ⟨g, 0, none⟩) (cutAt a1 (a0.data.toList.take (i + 1))).length cap) (cutAt a1 (a0.data.toList.take (i + 1))).length (encs Value.string (cutAt a1 (a0.data.toList.take (i + 1))))) := by
     have := hput.alloc (.cells #[.int .u8 (a0[i].toNat : Int)] 5)
     rw [hln]; rw [hln] at this
     exact this
    have hb2 : Below w.heap.size w (((wr.setCell ⟨g, xs.length - 1, none⟩ (.string (old ++ ⟨#[a0[i]]⟩))).alloc (.cells #[.int .u8 (a0[i].toNat : Int)] 5)).drew) :=
     below_drew (below_alloc (HB.out.setCell (p := ⟨g, xs.length - 1, none⟩) (World.ownsRow.lt HR.out g rfl).1 _) _)
    generalize (((wr.setCell ⟨g, xs.length - 1, none⟩ (.string (old ++ ⟨#[a0[i]]⟩))).alloc (.cells #[.int .u8 (a0[i].toNat : Int)] 5)).drew) = w2 at hr2 hb2 ⊢; rw [← hln]; have HR2 := Lib.hid hr2; have HB2 := Lib.hid hb2; clear hr2 hb2 hput hx2 hcv hof hc1 hf1 e1 b1 b2 hln; go_wp2; go_roundw
    case rel => exact ⟨i + 1, g, cap, by omega, by go_num, rfl, HB2, HR2⟩
    case measure => simp [intOf]; omega
  ·have ei : i = a0.size := by omega
   go_wp2; go_ret; rw [ei, List.take_of_length_le (by simp)] at HR; refine ⟨_, rfl, ?_, HB.out⟩; rw [ei, List.take_of_length_le (by simp)]
   exact Kd.R_of_own HR.out (fun _ _ => trivial)
set_option linter.unusedVariables false
set_option linter.unusedSimpArgs false
def spec_CodeRead.l0 : Nat → ByteArray → List ByteArray → List (S35) → Int → Option ((List (S35)) × Bool)
  | 0, _, _, _, _ => none
  | k + 1, x0, x4, x5, x6 => if (wrap64 (x6 + 1)) < (x4.length : Int) then (if 0 ≤ x6 then (if x6 < (x4.length : Int) then (if ((rdOf ByteArray.empty x4 x6).size : Int) = 8 then (if 4 < ((rdOf ByteArray.empty x4 x6).size : Int) then ((spec_l6In.f (wrap64 (bt (rdOf ByteArray.empty x4 x6) 4)) 48 57).bind fun t111 => (if t111 = true then (if 7 < ((rdOf ByteArray.empty x4 x6).size : Int) then ((spec_l6In.f (wrap64 (bt (rdOf ByteArray.empty x4 x6) 7)) 48 57).bind fun t112 => (if t112 = true then (if x5.length < 8796093022208 then (spec_CodeRead.l0 k x0 x4 (x5 ++ [(⟨((bt (rdOf ByteArray.empty x4 x6) 4) - 48) % 256, ((bt (rdOf ByteArray.empty x4 x6) 7) - 48) % 256⟩ : S35)]) (wrap64 (x6 + 1))) else (none)) else (some ((([] : List (S35))), false)))) else (none)) else (some ((([] : List (S35))), false)))) else (none)) else (some ((([] : List (S35))), false))) else (none)) else (none)) else ((spec_l22Stay.f k x5).bind fun bt125 => (if bt125.2 = true then ((spec_l22Write.f k bt125.1).bind fun t129 => (if t129.toList = x0.toList then (some (bt125.1, true)) else (some ((([] : List (S35))), false)))) else (some ((([] : List (S35))), false))))
def spec_CodeRead.f (k : Nat) (a0 : ByteArray) : Option ((List (S35)) × Bool) := if (a0.size : Int) > 4000 then (some ((([] : List (S35))), false)) else ((spec_l3Cut.f a0 10).bind fun t104 => (spec_CodeRead.l0 k a0 t104 (([] : List (S35))) 0))
theorem spec_CodeRead.mono_l : ∀ k, (∀ y0 y1 y2 y3, LeO (spec_CodeRead.l0 k y0 y1 y2 y3) (spec_CodeRead.l0 (k + 1) y0 y1 y2 y3))
  | 0 => fun _ _ _ _ r h => by simp [spec_CodeRead.l0] at h
  | k + 1 => by
    have ih0 := spec_CodeRead.mono_l k
    · intro y0 y1 y2 y3
      unfold spec_CodeRead.l0
      repeat' first
      | (with_reducible exact ih0 _ _ _ _)
      | (with_reducible exact spec_l22Stay.mono _ _)
      | (with_reducible exact spec_l22Write.mono _ _)
      | (with_reducible exact LeO.refl _)
      | (with_reducible exact LeO.none _)
      | (with_reducible refine LeO.ite ?_ ?_)
      | (with_reducible refine LeO.bind ?_ (fun _ => ?_))
      | exact ih0 _ _ _ _
      | exact spec_l22Stay.mono _ _
      | exact spec_l22Write.mono _ _
      | exact LeO.none _
      | refine LeO.ite ?_ ?_
      | refine LeO.bind ?_ (fun _ => ?_)
theorem spec_CodeRead.mono : ∀ a0 k, LeO (spec_CodeRead.f k a0) (spec_CodeRead.f (k + 1) a0) := by
  intro a0 k
  have ih0 := spec_CodeRead.mono_l k
  unfold spec_CodeRead.f
  repeat' first
      | (with_reducible exact ih0 _ _ _ _)
      | (with_reducible exact spec_l22Stay.mono _ _)
      | (with_reducible exact spec_l22Write.mono _ _)
      | (with_reducible exact LeO.refl _)
      | (with_reducible exact LeO.none _)
      | (with_reducible refine LeO.ite ?_ ?_)
      | (with_reducible refine LeO.bind ?_ (fun _ => ?_))
      | exact ih0 _ _ _ _
      | exact spec_l22Stay.mono _ _
      | exact spec_l22Write.mono _ _
      | exact LeO.none _
      | refine LeO.ite ?_ ?_
      | refine LeO.bind ?_ (fun _ => ?_)
def spec_CodeRead.T11 : Bool × List (List Nat × List Nat) := (true, [([], []), ([], []), ([1], [1]), ([2], [2]), ([3], [3]), ([], []), ([5], [5]), ([6], [6]), ([7], [7]), ([4, 8], [4, 8]), ([9], [9]), ([0, 10], [0, 10]), ([11, 11, 0, 1, 2, 3, 4, 5, 6, 7, 8, 9, 10, 11], [0, 11])])
def spec_CodeRead.B11 : List Nat := [0, 0, 2, 6, 14, 0, 32, 96, 224, 510, 1022, 2047, 4095]
theorem spec_CodeRead.tab11 : rtab .any (opsOf Tryd.f24 11) = spec_CodeRead.T11 := by kernel_rfl
theorem spec_CodeRead.bits11 : waitsOk spec_CodeRead.T11.2 spec_CodeRead.B11 = true := by kernel_rfl
set_option maxHeartbeats 8000000 in
set_option maxRecDepth 100000 in
theorem spec_CodeRead.calls (k : Nat) (a0 : ByteArray) (r1 : List (S35)) (r2 : Bool) (w : World) (h : spec_CodeRead.f k a0 = some (r1, r2)) :
  Calls Tryd.prog 24 #[.string a0] w fun e w' => ∃ v0_ : Value, e = .returned (.tuple #[v0_, .bool r2]) ∧ Kd.R k35 35 w' w.heap.size (fun _ => True) v0_ r1 ∧ Below w.heap.size w w' := by
 have hu35 := Tryd.underlying35; have HB := Aside0.mk (Below.refl w.heap.size w); have H : (if (a0.size : Int) > 4000 then (some ((([] : List (S35))), false)) else ((spec_l3Cut.f a0 10).bind fun t104 => (spec_CodeRead.l0 k a0 t104 (([] : List (S35))) 0))) = some (r1, r2) := h; clear h
 by_cases c2 : (a0.size : Int) > 4000
 ·rw [if_pos c2] at H
  have c2b0 : decide (4000 < (a0.size : Int)) = true := decide_eq_true c2; have c2b1 : decide (4000 < a0.size) = true := decide_eq_true (by omega); clear c2; obtain ⟨y101, hy101⟩ : ∃ y_ : List (S35), y_ = (([] : List (S35))) := ⟨_, rfl⟩
  replace H : (some (y101, false)) = some (r1, r2) := by first | (rw [hy101]; with_reducible exact H) | (have H2_ := (Option.bind_some _ _).symm.trans H; rw [hy101]; with_reducible exact H2_) | (have H2_ := (Option.bind_some _ _).symm.trans H; with_reducible exact H2_) | with_reducible exact H | (rw [hy101]; exact H) | exact H
  have Ny101 := Aside0.mk hy101; clear hy101; simp only [Option.some.injEq, Prod.mk.injEq] at H; obtain ⟨rfl, rfl⟩ := H; go_enter Tryd.func24, Tryd.ntmps24; go_wp2_with (first | ((with_reducible refine gate_dst (N := 13) rfl ?_); refine Kd.R_lit k35 _ 35 ?hg (N := 13) ?hd (xs := ([] : List (S35))) (inner := []) (ok := fun _ => True) (okp := fun _ => True) ?hr ?hp (fun _ hk => hk) trivial (Below.refl _ _) (Nat.le_refl _) (by simp) ?_; (case hd => rfl); (case hg => rfl); (case hr => first | (go_simp; done) | (go_simp; rfl)); (case hp => exact (Reps.none _ _)); intro v102 w3 ho4 hb hg_ hnew_; clear hg_ hnew_; (first | rw [← Ny101.out] at ho4 | (simp only [Int.reduceToNat] at ho4; rw [← Ny101.out] at ho4)); have n0_ := Aside0.mk (Kd.R_lower ho4 (below_size (bC0 HB))); have n1_ := Aside0.mk (below_step (bC0 HB) hb); clear HB; have HO103 := n0_; have HB := n1_; clear n0_ n1_; clear hb ho4)); go_ret2
  exact ⟨_, bE, by (with_reducible repeat (first | apply Kd.R_alloc | apply Kd.R_drewN | apply Kd.R_drew)); exact HO103.out, (bC0 HB)⟩
 ·rw [if_neg c2] at H
  have c2b0 : decide (4000 < (a0.size : Int)) = false := decide_eq_false c2; have c2b1 : decide (4000 < a0.size) = false := decide_eq_false (by omega); clear c2; replace H := Option.bind_eq_some_iff.mp H; obtain ⟨t104, A50, H⟩ := H; replace H : (spec_CodeRead.l0 k a0 t104 (([] : List (S35))) 0) = some (r1, r2) := H; have A5 := Aside0.mk A50; clear A50; obtain ⟨y107, hy107⟩ : ∃ y_ : List (S35), y_ = (([] : List (S35))) := ⟨_, rfl⟩
  replace H : (spec_CodeRead.l0 k a0 t104 y107 0) = some (r1, r2) := by first | (rw [hy107]; with_reducible exact H) | (have H2_ := (Option.bind_some _ _).symm.trans H; rw [hy107]; with_reducible exact H2_) | (have H2_ := (Option.bind_some _ _).symm.trans H; with_reducible exact H2_) | with_reducible exact H | (rw [hy107]; exact H) | exact H
  have Ny107 := Aside0.mk hy107; clear hy107; have H' := Aside0.mk H; clear H; go_enter Tryd.func24, Tryd.ntmps24; go_wp2_with (first | ((with_reducible refine gate_callee (f := 49) rfl ?_); refine goesL_ (some 15) rfl rfl Tryd.func49 (by kernel_rfl) rfl #[.string a0, .int .u8 10] rfl bM ?_; (with_reducible refine (spec_l3Cut.calls a0 10 t104 _ A5.out).mono ?_); rintro e w6 ⟨v105, rfl, ho0, hb⟩; refine ⟨_, rfl, ?_⟩; have n0_ := Aside0.mk (Kd.R_lower ho0 (below_size (bC0 HB))); have n1_ := Aside0.mk (below_step (bC0 HB) hb); clear HB; have HO106 := n0_; have HB := n1_; clear n0_ n1_; (try clear hb); (try clear hb2); (try clear hk); (try clear hi); (try clear ho0)) | ((with_reducible refine gate_dst (N := 16) rfl ?_); refine Kd.R_lit k35 _ 35 ?hg (N := 16) ?hd (xs := ([] : List (S35))) (inner := []) (ok := fun _ => True) (okp := fun _ => True) ?hr ?hp (fun _ hk => hk) trivial (Below.refl _ _) (Nat.le_refl _) (by simp) ?_; (case hd => rfl); (case hg => rfl); (case hr => first | (go_simp; done) | (go_simp; rfl)); (case hp => exact (Reps.none _ _)); intro v108 w7 ho8 hb hg_ hnew_; clear hg_ hnew_; (first | rw [← Ny107.out] at ho8 | (simp only [Int.reduceToNat] at ho8; rw [← Ny107.out] at ho8)); have n0_ := Aside0.mk (Kd.R_below (bR HO106) hb); have n1_ := Aside0.mk (Kd.R_lower ho8 (below_size (bC0 HB))); have n2_ := Aside0.mk (below_step (bC0 HB) hb); clear HO106; clear HB; have HO106 := n0_; have HO109 := n1_; have HB := n2_; clear n0_ n1_ n2_; clear hb ho8)); go_loopg [5, 6] k (fun kq v5 v6 w' => ∃ (x5_1 : List (S35)) (x6_1 : Int), v6 = .int .i64 x6_1 ∧ Aside0 (spec_CodeRead.l0 kq a0 t104 x5_1 x6_1 = some (r1, r2)) ∧ Aside0 (kq ≤ k) ∧ Aside0 (Kd.R Kd.string 9 w' w.heap.size (fun _ => True) v105 t104) ∧ Aside0 (Kd.R k35 35 w' w.heap.size (fun _ => True) v5 x5_1) ∧ Aside0 (Below w.heap.size w w'))
  case atStart => exact ⟨(y107), (0), (by first | rfl | (simp; done) | (simp [*]; done)), H', ⟨Nat.le_refl _⟩, ⟨by (with_reducible repeat (first | apply Kd.R_alloc | apply Kd.R_drewN | apply Kd.R_drew)); exact HO106.out⟩, ⟨by (with_reducible repeat (first | apply Kd.R_alloc | apply Kd.R_drewN | apply Kd.R_drew)); exact HO109.out⟩, ⟨(bC0 HB)⟩⟩
  case round =>
   clear H'
   try clear c2
   try clear c2b0
   try clear c2b1
   try clear p2
   try clear c4
   obtain ⟨x5_1, x6_1, rfl, HA, HK1, HO_4, HO_5, HB⟩ := hrel
   cases gk with
   | zero => exact absurd HA.out (by simp [spec_CodeRead.l0])
   | succ k1 =>
    have H := HA.out; clear HA; simp only [spec_CodeRead.l0] at H
    by_cases c9 : (wrap64 (x6_1 + 1)) < (t104.length : Int)
    ·rw [if_pos c9] at H
     have c9b0 : decide ((wrap64 (x6_1 + 1)) < (t104.length : Int)) = true := decide_eq_true c9; clear c9
     by_cases c10 : 0 ≤ x6_1
     ·rw [if_pos c10] at H
      have c10b0 : decide (0 ≤ x6_1) = true := decide_eq_true c10; clear c10
      by_cases c11 : x6_1 < (t104.length : Int)
      ·rw [if_pos c11] at H
       have c11b0 : decide (x6_1 < (t104.length : Int)) = true := decide_eq_true c11; clear c11
       by_cases c12 : ((rdOf ByteArray.empty t104 x6_1).size : Int) = 8
       ·rw [if_pos c12] at H
        have c12b0 : (((rdOf ByteArray.empty t104 x6_1).size : Int) == 8) = true := beq_iff_eq.mpr c12; have c12b1 : (((rdOf ByteArray.empty t104 x6_1).size : Int) != 8) = false := bne_eq_false_iff_eq.mpr c12; clear c12
        by_cases c13 : 4 < ((rdOf ByteArray.empty t104 x6_1).size : Int)
        ·rw [if_pos c13] at H
         have c13b0 : decide (4 < ((rdOf ByteArray.empty t104 x6_1).size : Int)) = true := decide_eq_true c13; have c13b1 : decide (4 < (rdOf ByteArray.empty t104 x6_1).size) = true := decide_eq_true (by omega); clear c13; replace H := Option.bind_eq_some_iff.mp H; obtain ⟨t111, A150, H⟩ := H; replace H : (if t111 = true then (if 7 < ((rdOf ByteArray.empty t104 x6_1).size : Int) then ((spec_l6In.f (wrap64 (bt (rdOf ByteArray.empty t104 x6_1) 7)) 48 57).bind fun t112 => (if t112 = true then (if x5_1.length < 8796093022208 then (spec_CodeRead.l0 k1 a0 t104 (x5_1 ++ [(⟨((bt (rdOf ByteArray.empty t104 x6_1) 4) - 48) % 256, ((bt (rdOf ByteArray.empty t104 x6_1) 7) - 48) % 256⟩ : S35)]) (wrap64 (x6_1 + 1))) else (none)) else (some ((([] : List (S35))), false)))) else (none)) else (some ((([] : List (S35))), false))) = some (r1, r2) := H; have A15 := Aside0.mk A150; clear A150
         by_cases c16 : t111 = true
         ·subst c16
          have H1 : (if 7 < ((rdOf ByteArray.empty t104 x6_1).size : Int) then ((spec_l6In.f (wrap64 (bt (rdOf ByteArray.empty t104 x6_1) 7)) 48 57).bind fun t112 => (if t112 = true then (if x5_1.length < 8796093022208 then (spec_CodeRead.l0 k1 a0 t104 (x5_1 ++ [(⟨((bt (rdOf ByteArray.empty t104 x6_1) 4) - 48) % 256, ((bt (rdOf ByteArray.empty t104 x6_1) 7) - 48) % 256⟩ : S35)]) (wrap64 (x6_1 + 1))) else (none)) else (some ((([] : List (S35))), false)))) else (none)) = some (r1, r2) := by rw [if_pos rfl] at H; exact H
          clear H; have H := H1; clear H1
          by_cases c17 : 7 < ((rdOf ByteArray.empty t104 x6_1).size : Int)
          ·rw [if_pos c17] at H
           have c17b0 : decide (7 < ((rdOf ByteArray.empty t104 x6_1).size : Int)) = true := decide_eq_true c17; have c17b1 : decide (7 < (rdOf ByteArray.empty t104 x6_1).size) = true := decide_eq_true (by omega); clear c17; replace H := Option.bind_eq_some_iff.mp H; obtain ⟨t112, A190, H⟩ := H; replace H : (if t112 = true then (if x5_1.length < 8796093022208 then (spec_CodeRead.l0 k1 a0 t104 (x5_1 ++ [(⟨((bt (rdOf ByteArray.empty t104 x6_1) 4) - 48) % 256, ((bt (rdOf ByteArray.empty t104 x6_1) 7) - 48) % 256⟩ : S35)]) (wrap64 (x6_1 + 1))) else (none)) else (some ((([] : List (S35))), false))) = some (r1, r2) := H; have A19 := Aside0.mk A190; clear A190
           by_cases c20 : t112 = true
           ·subst c20
            have H1 : (if x5_1.length < 8796093022208 then (spec_CodeRead.l0 k1 a0 t104 (x5_1 ++ [(⟨((bt (rdOf ByteArray.empty t104 x6_1) 4) - 48) % 256, ((bt (rdOf ByteArray.empty t104 x6_1) 7) - 48) % 256⟩ : S35)]) (wrap64 (x6_1 + 1))) else (none)) = some (r1, r2) := by rw [if_pos rfl] at H; exact H
            clear H; have H := H1; clear H1
            by_cases c23 : x5_1.length < 8796093022208
            ·rw [if_pos c23] at H
             have LMc23 := Aside0.mk c23; clear c23; obtain ⟨y113, hy113⟩ : ∃ y_ : List (S35), y_ = (x5_1 ++ [(⟨((bt (rdOf ByteArray.empty t104 x6_1) 4) - 48) % 256, ((bt (rdOf ByteArray.empty t104 x6_1) 7) - 48) % 256⟩ : S35)]) := ⟨_, rfl⟩
             replace H : (spec_CodeRead.l0 k1 a0 t104 y113 (wrap64 (x6_1 + 1))) = some (r1, r2) := by first | (rw [hy113]; with_reducible exact H) | (have H2_ := (Option.bind_some _ _).symm.trans H; rw [hy113]; with_reducible exact H2_) | (have H2_ := (Option.bind_some _ _).symm.trans H; with_reducible exact H2_) | with_reducible exact H | (rw [hy113]; exact H) | exact H
             have Ny113 := Aside0.mk hy113; clear hy113; have H' := Aside0.mk H; clear H; obtain ⟨Ao24, co24, eo24⟩ := Kd.R_slice HO_4.out; subst eo24; have p110 : 0 ≤ (x6_1 : Int) := of_decide_eq_true bX; have q110 : x6_1 < (t104.length : Int) := of_decide_eq_true bX; obtain ⟨ad110, e110, hx110_0⟩ := Kd.at_string (Kd.R_reads' HO_4.out).2.2 x6_1 p110 q110
             cases e110
             replace p110 := eq_true p110; replace q110 := eq_true q110; have p14 : 0 ≤ (4 : Int) := (by omega); have q14 : 4 < (rdOf ByteArray.empty t104 x6_1).size := (by have : (4 : Int) < ((rdOf ByteArray.empty t104 x6_1).size : Int) := of_decide_eq_true bX; omega); have hx14 : ∀ h : 4 < (rdOf ByteArray.empty t104 x6_1).size, (((rdOf ByteArray.empty t104 x6_1)[4]'h).toNat : Int) = bt (rdOf ByteArray.empty t104 x6_1) 4 := bt_at (rdOf ByteArray.empty t104 x6_1) 4; clear p14; have qi14 : (4 < ((rdOf ByteArray.empty t104 x6_1).size : Int)) = True := eq_true (of_decide_eq_true bX); replace q14 := eq_true q14
             try go_wp2_with (first | (go_at_call 50; (with_reducible refine (spec_l6In.calls (wrap64 (bt (rdOf ByteArray.empty t104 x6_1) 4)) 48 57 true _ A15.out).mono ?_); rintro e w' ⟨rfl, ⟨nd, rfl⟩⟩; have p18 : 0 ≤ (7 : Int) := (by omega); have q18 : 7 < (rdOf ByteArray.empty t104 x6_1).size := (by have : (7 : Int) < ((rdOf ByteArray.empty t104 x6_1).size : Int) := of_decide_eq_true bX; omega); have hx18 : ∀ h : 7 < (rdOf ByteArray.empty t104 x6_1).size, (((rdOf ByteArray.empty t104 x6_1)[7]'h).toNat : Int) = bt (rdOf ByteArray.empty t104 x6_1) 7 := bt_at (rdOf ByteArray.empty t104 x6_1) 7; clear p18; have qi18 : (7 < ((rdOf ByteArray.empty t104 x6_1).size : Int)) = True := eq_true (of_decide_eq_true bX); replace q18 := eq_true q18) | (go_at_call 50; (with_reducible refine (spec_l6In.calls (wrap64 (bt (rdOf ByteArray.empty t104 x6_1) 7)) 48 57 true _ A19.out).mono ?_); rintro e w' ⟨rfl, ⟨nd, rfl⟩⟩))
             (try (rw [drewN_self wr]; generalize hq_ : World.drewN wr _ = wr; have n0_ : Aside0 (Kd.R Kd.string 9 wr w.heap.size (fun _ => True) (.slice (some ad110) t104.length co24) t104) := ⟨by rw [← hq_]; exact (bR HO_4)⟩; have n1_ : Aside0 (Kd.R k35 35 wr w.heap.size (fun _ => True) u5 x5_1) := ⟨by rw [← hq_]; exact (bR HO_5)⟩; have n2_ : Aside0 (Below w.heap.size w wr) := ⟨by rw [← hq_]; exact (bC0 HB)⟩; clear HO_4 HO_5 HB hq_; have HO_4 := n0_; have HO_5 := n1_; have HB := n2_; clear n0_ n1_ n2_)); have n0_ := Aside0.mk (Kd.R_drew HO_4.out); have n1_ := Aside0.mk (Kd.R_drew HO_5.out); have n2_ := Aside0.mk (below_drew1 HB.out); clear HO_4; clear HO_5; clear HB; have HO_4 := n0_; have HO_5 := n1_; have HB := n2_; clear n0_ n1_ n2_; have p21 : 0 ≤ (4 : Int) := (by omega); have q21 : 4 < (rdOf ByteArray.empty t104 x6_1).size := (by have : (4 : Int) < ((rdOf ByteArray.empty t104 x6_1).size : Int) := of_decide_eq_true bX; omega); have hx21 : ∀ h : 4 < (rdOf ByteArray.empty t104 x6_1).size, (((rdOf ByteArray.empty t104 x6_1)[4]'h).toNat : Int) = bt (rdOf ByteArray.empty t104 x6_1) 4 := bt_at (rdOf ByteArray.empty t104 x6_1) 4; clear p21; have qi21 : (4 < ((rdOf ByteArray.empty t104 x6_1).size : Int)) = True := eq_true (of_decide_eq_true bX); replace q21 := eq_true q21; have p22 : 0 ≤ (7 : Int) := (by omega); have q22 : 7 < (rdOf ByteArray.empty t104 x6_1).size := (by have : (7 : Int) < ((rdOf ByteArray.empty t104 x6_1).size : Int) := of_decide_eq_true bX; omega); have hx22 : ∀ h : 7 < (rdOf ByteArray.empty t104 x6_1).size, (((rdOf ByteArray.empty t104 x6_1)[7]'h).toNat : Int) = bt (rdOf ByteArray.empty t104 x6_1) 7 := bt_at (rdOf ByteArray.empty t104 x6_1) 7; clear p22; have qi22 : (7 < ((rdOf ByteArray.empty t104 x6_1).size : Int)) = True := eq_true (of_decide_eq_true bX); replace q22 := eq_true q22; refine start_ (n := 13) (S := fun w' => True) (ds := []) #[false, false, false, false, false, false, false, false, false, false, false, false, false] (by kernel_rfl) rfl rfl trivial (fun hHeld => ?_); refine with_tabW spec_CodeRead.tab11 spec_CodeRead.bits11 (fun HT_ HW_ => ?_); generalize wr.drew = w25 at HO_4 HO_5 HB hHeld ⊢; refine pure_ (i := 0) (N := some 46) (v := ?_) (a' := ?_) #[true, false, false, false, false, false, false, false, false, false, false, false, false] rfl rfl (any_of HT_.out (by kernel_rfl)) (fun _ _ _ h => h) (Or.inl ⟨by rfl, ?_⟩) ?_ ?_
             rotate_left
             ·intro w'; go_simp; with_reducible rfl
             rotate_left
             ·simp only [Act.put, List.setIfInBounds_toArray, List.set_cons_zero, List.set_cons_succ, i64_w, i32_w]; rfl
             refine pure_ (i := 1) (N := some 47) (v := ?_) (a' := ?_) #[true, true, false, false, false, false, false, false, false, false, false, false, false] rfl rfl (any_of HT_.out (by kernel_rfl)) (fun _ _ _ h => h) (Or.inl ⟨by rfl, ?_⟩) ?_ ?_
             rotate_left
             ·intro w'; go_simp; with_reducible rfl
             rotate_left
             ·simp only [Act.put, List.setIfInBounds_toArray, List.set_cons_zero, List.set_cons_succ, i64_w, i32_w]; rfl
             refine pure_ (i := 5) (N := some 51) (v := ?_) (a' := ?_) #[true, true, false, false, false, true, false, false, false, false, false, false, false] rfl rfl (any_of HT_.out (by kernel_rfl)) (fun _ _ _ h => h) (Or.inl ⟨by rfl, ?_⟩) ?_ ?_
             rotate_left
             ·intro w'; go_simp; with_reducible rfl
             rotate_left
             ·simp only [Act.put, List.setIfInBounds_toArray, List.set_cons_zero, List.set_cons_succ, i64_w, i32_w]; rfl
             refine take_ (i := 2) (N := some 48) (v := ?_) (a' := ?_) #[true, true, true, false, false, true, false, false, false, false, false, false, false] rfl rfl (take_ofW HT_.out HW_.out (by kernel_rfl)) (fun _ _ _ h => h) (Or.inl ⟨by rfl, ?_⟩) hHeld ?_ ?_
             rotate_left
             ·intro w' _; go_simp; with_reducible rfl
             rotate_left
             ·simp only [Act.put, List.setIfInBounds_toArray, List.set_cons_zero, List.set_cons_succ, i64_w, i32_w]; rfl
             refine pure_ (i := 3) (N := some 49) (v := ?_) (a' := ?_) #[true, true, true, true, false, true, false, false, false, false, false, false, false] rfl rfl (any_of HT_.out (by kernel_rfl)) (fun _ _ _ h => h) (Or.inl ⟨by rfl, ?_⟩) ?_ ?_
             rotate_left
             ·intro w'; go_simp; with_reducible rfl
             rotate_left
             ·simp only [Act.put, List.setIfInBounds_toArray, List.set_cons_zero, List.set_cons_succ, i64_w, i32_w]; rfl
             refine pure_ (i := 4) (N := some 50) (v := ?_) (a' := ?_) #[true, true, true, true, true, true, false, false, false, false, false, false, false] rfl rfl (any_of HT_.out (by kernel_rfl)) (fun _ _ _ h => h) (Or.inl ⟨by rfl, ?_⟩) ?_ ?_
             rotate_left
             ·intro w'; go_simp; with_reducible rfl
             rotate_left
             ·simp only [Act.put, List.setIfInBounds_toArray, List.set_cons_zero, List.set_cons_succ, i64_w, i32_w]; rfl
             refine take_ (i := 6) (N := some 52) (v := ?_) (a' := ?_) #[true, true, true, true, true, true, true, false, false, false, false, false, false] rfl rfl (take_ofW HT_.out HW_.out (by kernel_rfl)) (fun _ _ _ h => h) (Or.inl ⟨by rfl, ?_⟩) hHeld ?_ ?_
             rotate_left
             ·intro w' _; go_simp; with_reducible rfl
             rotate_left
             ·simp only [Act.put, List.setIfInBounds_toArray, List.set_cons_zero, List.set_cons_succ, i64_w, i32_w]; rfl
             refine pure_ (i := 7) (N := some 53) (v := ?_) (a' := ?_) #[true, true, true, true, true, true, true, true, false, false, false, false, false] rfl rfl (any_of HT_.out (by kernel_rfl)) (fun _ _ _ h => h) (Or.inl ⟨by rfl, ?_⟩) ?_ ?_
             rotate_left
             ·intro w'; go_simp; with_reducible rfl
             rotate_left
             ·simp only [Act.put, List.setIfInBounds_toArray, List.set_cons_zero, List.set_cons_succ, i64_w, i32_w]; rfl
             refine pure_ (i := 8) (N := some 54) (v := ?_) (a' := ?_) #[true, true, true, true, true, true, true, true, true, false, false, false, false] rfl rfl (any_of HT_.out (by kernel_rfl)) (fun _ _ _ h => h) (Or.inl ⟨by rfl, ?_⟩) ?_ ?_
             rotate_left
             ·intro w'; go_simp; with_reducible rfl
             rotate_left
             ·simp only [Act.put, List.setIfInBounds_toArray, List.set_cons_zero, List.set_cons_succ, i64_w, i32_w]; rfl
             refine pure_ (i := 9) (N := some 55) (v := ?_) (a' := ?_) #[true, true, true, true, true, true, true, true, true, true, false, false, false] rfl rfl (any_of HT_.out (by kernel_rfl)) (fun _ _ _ h => h) (Or.inl ⟨by rfl, ?_⟩) ?_ ?_
             rotate_left
             ·intro w'; go_simp; with_reducible rfl
             rotate_left
             ·simp only [Act.put, List.setIfInBounds_toArray, List.set_cons_zero, List.set_cons_succ, i64_w, i32_w]; rfl
             refine one_ (i := 10) (N := some 56) #[true, true, true, true, true, true, true, true, true, true, true, false, false] rfl rfl (one_of HT_.out (by kernel_rfl)) (by decide) (fun K hK => ?_); refine value_ (w1 := ?_) (v := ?_) (by rfl) rfl ?_ ?_
             rotate_left 2
             ·go_simp
              constructor
              ·rfl
              ·rfl
             refine hK.out _ _ trivial (fun hHeld => ?_); clear hK K; refine norm_ (a' := ?_) ?_ ?_
             rotate_left
             ·show Act.put _ (some 56) _ = _
              simp only [Act.put, List.setIfInBounds_toArray, List.set_cons_zero, List.set_cons_succ, i64_w, i32_w]; rfl
             refine one_ (i := 11) (N := some 57) #[true, true, true, true, true, true, true, true, true, true, true, true, false] rfl rfl (one_of HT_.out (by kernel_rfl)) (by decide) (fun K hK => ?_); (repeat rw [show ∀ x_ : Int, wrap64 (IntKind.u8.wrap x_) = x_ % 256 from fun x_ => by rw [IntKind.wrap_u8]; unfold wrap64; omega]); refine Kd.R_append_step k35 (w0 := w) w.heap.size (by rfl) (.tmp 46) (.tmp 56) 25 35 (.agg #[(.int .i64 0), (.int .i64 0)]) 16 rfl Tryd.underlying25 info35 rfl (by decide) (by omega) u5 x5_1 (⟨((bt (rdOf ByteArray.empty t104 x6_1) 4) - 48) % 256, ((bt (rdOf ByteArray.empty t104 x6_1) 7) - 48) % 256⟩ : S35) [.int .i64 (((bt (rdOf ByteArray.empty t104 x6_1) 4) - 48) % 256), .int .i64 (((bt (rdOf ByteArray.empty t104 x6_1) 7) - 48) % 256)] (fun _ => True) (fun _ => False) rfl rfl ?aP (fun _ hk => hk.elim) ?aF ?aO ?aB ?aS ?aL ?_; (case aP => exact k35_mkM _ _ _ (⟨((bt (rdOf ByteArray.empty t104 x6_1) 4) - 48) % 256, ((bt (rdOf ByteArray.empty t104 x6_1) 7) - 48) % 256⟩ : S35)); (case aB => exact (bC0 HB)); (case aF => exact (fun _ _ => trivial)); (case aO => exact (bR HO_5)); (case aS => exact (below_size (bC0 HB))); (case aL => have := LMc23.out; omega); intro v114 w26 ho hb hg hat; rw [← Ny113.out] at ho; have n0_ := Aside0.mk (Kd.R_over' (bR HO_4) (Kd.R_typed (bR HO_5)) (by decide) hg); have n1_ := Aside0.mk (hb); have n2_ := Aside0.mk (ho); clear HO_4; clear HB; clear HO_5; have HO_4 := n0_; have HB := n1_; have HO115 := n2_; clear n0_ n1_ n2_; clear ho hb hg hat; refine hK.out _ _ trivial (fun hHeld => ?_); clear hK K; refine norm_ (a' := ?_) ?_ ?_
             rotate_left
             ·show Act.put _ (some 57) _ = _
              simp only [Act.put, List.setIfInBounds_toArray, List.set_cons_zero, List.set_cons_succ, i64_w, i32_w]; rfl
             refine pure_ (i := 12) (N := some 5) (v := ?_) (a' := ?_) #[true, true, true, true, true, true, true, true, true, true, true, true, true] rfl rfl (any_of HT_.out (by kernel_rfl)) (fun _ _ _ h => h) (Or.inl ⟨by rfl, ?_⟩) ?_ ?_
             rotate_left
             ·intro w'; go_simp; with_reducible rfl
             rotate_left
             ·simp only [Act.put, List.setIfInBounds_toArray, List.set_cons_zero, List.set_cons_succ, i64_w, i32_w]; rfl
             refine done_ (done_of HT_.out (by kernel_rfl)) ?_
             try go_wp2
             go_roundg k1
             case measure => have := HK1.out; omega
             case rel => exact ⟨(y113), (wrap64 (x6_1 + 1)), (by first | rfl | (simp; done) | (simp [*]; done)), H', ⟨by have := HK1.out; omega⟩, ⟨by (with_reducible repeat (first | apply Kd.R_alloc | apply Kd.R_drewN | apply Kd.R_drew)); exact HO_4.out⟩, ⟨by (with_reducible repeat (first | apply Kd.R_alloc | apply Kd.R_drewN | apply Kd.R_drew)); exact HO115.out⟩, ⟨(bC0 HB)⟩⟩
            ·rw [if_neg c23] at H; exact absurd H (by simp)
           ·replace c20 := Bool.eq_false_iff.mpr c20
            subst c20
            have H1 : (some ((([] : List (S35))), false)) = some (r1, r2) := by rw [if_neg (show ¬ (false = true) by decide)] at H; exact H
            clear H; have H := H1; clear H1; obtain ⟨y116, hy116⟩ : ∃ y_ : List (S35), y_ = (([] : List (S35))) := ⟨_, rfl⟩
            replace H : (some (y116, false)) = some (r1, r2) := by first | (rw [hy116]; with_reducible exact H) | (have H2_ := (Option.bind_some _ _).symm.trans H; rw [hy116]; with_reducible exact H2_) | (have H2_ := (Option.bind_some _ _).symm.trans H; with_reducible exact H2_) | with_reducible exact H | (rw [hy116]; exact H) | exact H
            have Ny116 := Aside0.mk hy116; clear hy116; simp only [Option.some.injEq, Prod.mk.injEq] at H; obtain ⟨rfl, rfl⟩ := H; obtain ⟨Ao27, co27, eo27⟩ := Kd.R_slice HO_4.out; subst eo27; have p110 : 0 ≤ (x6_1 : Int) := of_decide_eq_true bX; have q110 : x6_1 < (t104.length : Int) := of_decide_eq_true bX; obtain ⟨ad110, e110, hx110_0⟩ := Kd.at_string (Kd.R_reads' HO_4.out).2.2 x6_1 p110 q110
            cases e110
            replace p110 := eq_true p110; replace q110 := eq_true q110; have p14 : 0 ≤ (4 : Int) := (by omega); have q14 : 4 < (rdOf ByteArray.empty t104 x6_1).size := (by have : (4 : Int) < ((rdOf ByteArray.empty t104 x6_1).size : Int) := of_decide_eq_true bX; omega); have hx14 : ∀ h : 4 < (rdOf ByteArray.empty t104 x6_1).size, (((rdOf ByteArray.empty t104 x6_1)[4]'h).toNat : Int) = bt (rdOf ByteArray.empty t104 x6_1) 4 := bt_at (rdOf ByteArray.empty t104 x6_1) 4; clear p14; have qi14 : (4 < ((rdOf ByteArray.empty t104 x6_1).size : Int)) = True := eq_true (of_decide_eq_true bX); replace q14 := eq_true q14; go_wp2_with (first | (go_at_call 50; (with_reducible refine (spec_l6In.calls (wrap64 (bt (rdOf ByteArray.empty t104 x6_1) 4)) 48 57 true _ A15.out).mono ?_); rintro e w' ⟨rfl, ⟨nd, rfl⟩⟩; have p18 : 0 ≤ (7 : Int) := (by omega); have q18 : 7 < (rdOf ByteArray.empty t104 x6_1).size := (by have : (7 : Int) < ((rdOf ByteArray.empty t104 x6_1).size : Int) := of_decide_eq_true bX; omega); have hx18 : ∀ h : 7 < (rdOf ByteArray.empty t104 x6_1).size, (((rdOf ByteArray.empty t104 x6_1)[7]'h).toNat : Int) = bt (rdOf ByteArray.empty t104 x6_1) 7 := bt_at (rdOf ByteArray.empty t104 x6_1) 7; clear p18; have qi18 : (7 < ((rdOf ByteArray.empty t104 x6_1).size : Int)) = True := eq_true (of_decide_eq_true bX); replace q18 := eq_true q18) | (go_at_call 50; (with_reducible refine (spec_l6In.calls (wrap64 (bt (rdOf ByteArray.empty t104 x6_1) 7)) 48 57 false _ A19.out).mono ?_); rintro e w' ⟨rfl, ⟨nd, rfl⟩⟩) | ((with_reducible refine gate_dst (N := 45) rfl ?_); refine Kd.R_lit k35 _ 35 ?hg (N := 45) ?hd (xs := ([] : List (S35))) (inner := []) (ok := fun _ => True) (okp := fun _ => True) ?hr ?hp (fun _ hk => hk) trivial (Below.refl _ _) (Nat.le_refl _) (by simp) ?_; (case hd => rfl); (case hg => rfl); (case hr => first | (go_simp; done) | (go_simp; rfl)); (case hp => exact (Reps.none _ _)); intro v117 w28 ho29 hb hg_ hnew_; clear hg_ hnew_; (first | rw [← Ny116.out] at ho29 | (simp only [Int.reduceToNat] at ho29; rw [← Ny116.out] at ho29)); have n0_ := Aside0.mk (Kd.R_below (bR HO_4) hb); have n1_ := Aside0.mk (Kd.R_elder' (bR HO_5) (Kd.R_base ho29) hb); have n2_ := Aside0.mk (Kd.R_lower (Kd.R_new' ho29 (Kd.R_lt (bR HO_5))) (below_size (bC0 HB))); have n3_ := Aside0.mk (below_step (bC0 HB) hb); clear HO_4; clear HO_5; clear HB; have HO_4 := n0_; have HO_5 := n1_; have HO118 := n2_; have HB := n3_; clear n0_ n1_ n2_ n3_; clear hb ho29)); go_ret2
            exact ⟨_, bE, by (with_reducible repeat (first | apply Kd.R_alloc | apply Kd.R_drewN | apply Kd.R_drew)); exact Kd.R_mono HO118.out (fun _ hk => trivial), (bC0 HB)⟩
          ·rw [if_neg c17] at H; exact absurd H (by simp)
         ·replace c16 := Bool.eq_false_iff.mpr c16
          subst c16
          have H1 : (some ((([] : List (S35))), false)) = some (r1, r2) := by rw [if_neg (show ¬ (false = true) by decide)] at H; exact H
          clear H; have H := H1; clear H1; obtain ⟨y119, hy119⟩ : ∃ y_ : List (S35), y_ = (([] : List (S35))) := ⟨_, rfl⟩
          replace H : (some (y119, false)) = some (r1, r2) := by first | (rw [hy119]; with_reducible exact H) | (have H2_ := (Option.bind_some _ _).symm.trans H; rw [hy119]; with_reducible exact H2_) | (have H2_ := (Option.bind_some _ _).symm.trans H; with_reducible exact H2_) | with_reducible exact H | (rw [hy119]; exact H) | exact H
          have Ny119 := Aside0.mk hy119; clear hy119; simp only [Option.some.injEq, Prod.mk.injEq] at H; obtain ⟨rfl, rfl⟩ := H; obtain ⟨Ao30, co30, eo30⟩ := Kd.R_slice HO_4.out; subst eo30; have p110 : 0 ≤ (x6_1 : Int) := of_decide_eq_true bX; have q110 : x6_1 < (t104.length : Int) := of_decide_eq_true bX; obtain ⟨ad110, e110, hx110_0⟩ := Kd.at_string (Kd.R_reads' HO_4.out).2.2 x6_1 p110 q110
          cases e110
          replace p110 := eq_true p110; replace q110 := eq_true q110; have p14 : 0 ≤ (4 : Int) := (by omega); have q14 : 4 < (rdOf ByteArray.empty t104 x6_1).size := (by have : (4 : Int) < ((rdOf ByteArray.empty t104 x6_1).size : Int) := of_decide_eq_true bX; omega); have hx14 : ∀ h : 4 < (rdOf ByteArray.empty t104 x6_1).size, (((rdOf ByteArray.empty t104 x6_1)[4]'h).toNat : Int) = bt (rdOf ByteArray.empty t104 x6_1) 4 := bt_at (rdOf ByteArray.empty t104 x6_1) 4; clear p14; have qi14 : (4 < ((rdOf ByteArray.empty t104 x6_1).size : Int)) = True := eq_true (of_decide_eq_true bX); replace q14 := eq_true q14; go_wp2_with (first | (go_at_call 50; (with_reducible refine (spec_l6In.calls (wrap64 (bt (rdOf ByteArray.empty t104 x6_1) 4)) 48 57 false _ A15.out).mono ?_); rintro e w' ⟨rfl, ⟨nd, rfl⟩⟩) | ((with_reducible refine gate_dst (N := 45) rfl ?_); refine Kd.R_lit k35 _ 35 ?hg (N := 45) ?hd (xs := ([] : List (S35))) (inner := []) (ok := fun _ => True) (okp := fun _ => True) ?hr ?hp (fun _ hk => hk) trivial (Below.refl _ _) (Nat.le_refl _) (by simp) ?_; (case hd => rfl); (case hg => rfl); (case hr => first | (go_simp; done) | (go_simp; rfl)); (case hp => exact (Reps.none _ _)); intro v120 w31 ho32 hb hg_ hnew_; clear hg_ hnew_; (first | rw [← Ny119.out] at ho32 | (simp only [Int.reduceToNat] at ho32; rw [← Ny119.out] at ho32)); have n0_ := Aside0.mk (Kd.R_below (bR HO_4) hb); have n1_ := Aside0.mk (Kd.R_elder' (bR HO_5) (Kd.R_base ho32) hb); have n2_ := Aside0.mk (Kd.R_lower (Kd.R_new' ho32 (Kd.R_lt (bR HO_5))) (below_size (bC0 HB))); have n3_ := Aside0.mk (below_step (bC0 HB) hb); clear HO_4; clear HO_5; clear HB; have HO_4 := n0_; have HO_5 := n1_; have HO121 := n2_; have HB := n3_; clear n0_ n1_ n2_ n3_; clear hb ho32)); go_ret2
          exact ⟨_, bE, by (with_reducible repeat (first | apply Kd.R_alloc | apply Kd.R_drewN | apply Kd.R_drew)); exact Kd.R_mono HO121.out (fun _ hk => trivial), (bC0 HB)⟩
        ·rw [if_neg c13] at H; exact absurd H (by simp)
       ·rw [if_neg c12] at H
        have c12b0 : (((rdOf ByteArray.empty t104 x6_1).size : Int) == 8) = false := beq_eq_false_iff_ne.mpr c12; have c12b1 : (((rdOf ByteArray.empty t104 x6_1).size : Int) != 8) = true := bne_iff_ne.mpr c12; obtain ⟨y122, hy122⟩ : ∃ y_ : List (S35), y_ = (([] : List (S35))) := ⟨_, rfl⟩
        replace H : (some (y122, false)) = some (r1, r2) := by first | (rw [hy122]; with_reducible exact H) | (have H2_ := (Option.bind_some _ _).symm.trans H; rw [hy122]; with_reducible exact H2_) | (have H2_ := (Option.bind_some _ _).symm.trans H; with_reducible exact H2_) | with_reducible exact H | (rw [hy122]; exact H) | exact H
        have Ny122 := Aside0.mk hy122; clear hy122; simp only [Option.some.injEq, Prod.mk.injEq] at H; obtain ⟨rfl, rfl⟩ := H; obtain ⟨Ao33, co33, eo33⟩ := Kd.R_slice HO_4.out; subst eo33; have p110 : 0 ≤ (x6_1 : Int) := of_decide_eq_true bX; have q110 : x6_1 < (t104.length : Int) := of_decide_eq_true bX; obtain ⟨ad110, e110, hx110_0⟩ := Kd.at_string (Kd.R_reads' HO_4.out).2.2 x6_1 p110 q110
        cases e110
        replace p110 := eq_true p110; replace q110 := eq_true q110; go_wp2_with (first | ((with_reducible refine gate_dst (N := 45) rfl ?_); refine Kd.R_lit k35 _ 35 ?hg (N := 45) ?hd (xs := ([] : List (S35))) (inner := []) (ok := fun _ => True) (okp := fun _ => True) ?hr ?hp (fun _ hk => hk) trivial (Below.refl _ _) (Nat.le_refl _) (by simp) ?_; (case hd => rfl); (case hg => rfl); (case hr => first | (go_simp; done) | (go_simp; rfl)); (case hp => exact (Reps.none _ _)); intro v123 w34 ho35 hb hg_ hnew_; clear hg_ hnew_; (first | rw [← Ny122.out] at ho35 | (simp only [Int.reduceToNat] at ho35; rw [← Ny122.out] at ho35)); have n0_ := Aside0.mk (Kd.R_below (bR HO_4) hb); have n1_ := Aside0.mk (Kd.R_elder' (bR HO_5) (Kd.R_base ho35) hb); have n2_ := Aside0.mk (Kd.R_lower (Kd.R_new' ho35 (Kd.R_lt (bR HO_5))) (below_size (bC0 HB))); have n3_ := Aside0.mk (below_step (bC0 HB) hb); clear HO_4; clear HO_5; clear HB; have HO_4 := n0_; have HO_5 := n1_; have HO124 := n2_; have HB := n3_; clear n0_ n1_ n2_ n3_; clear hb ho35)); go_ret2
        exact ⟨_, bE, by (with_reducible repeat (first | apply Kd.R_alloc | apply Kd.R_drewN | apply Kd.R_drew)); exact Kd.R_mono HO124.out (fun _ hk => trivial), (bC0 HB)⟩
      ·rw [if_neg c11] at H; exact absurd H (by simp)
     ·rw [if_neg c10] at H; exact absurd H (by simp)
    ·rw [if_neg c9] at H
     have c9b0 : decide ((wrap64 (x6_1 + 1)) < (t104.length : Int)) = false := decide_eq_false c9; clear c9; replace H := Option.bind_eq_some_iff.mp H; obtain ⟨⟨t125, t126⟩, A360, H⟩ := H; replace H : (if t126 = true then ((spec_l22Write.f k1 t125).bind fun t129 => (if t129.toList = a0.toList then (some (t125, true)) else (some ((([] : List (S35))), false)))) else (some ((([] : List (S35))), false))) = some (r1, r2) := H; have A36 := Aside0.mk A360; clear A360
     by_cases c37 : t126 = true
     ·subst c37
      have H1 : ((spec_l22Write.f k1 t125).bind fun t129 => (if t129.toList = a0.toList then (some (t125, true)) else (some ((([] : List (S35))), false)))) = some (r1, r2) := by rw [if_pos rfl] at H; exact H
      clear H; have H := H1; clear H1; replace H := Option.bind_eq_some_iff.mp H; obtain ⟨t129, A380, H⟩ := H; replace H : (if t129.toList = a0.toList then (some (t125, true)) else (some ((([] : List (S35))), false))) = some (r1, r2) := H; have A38 := Aside0.mk A380; clear A380
      by_cases c39 : t129.toList = a0.toList
      ·rw [if_pos c39] at H
       have c39b0 : (t129.toList == a0.toList) = true := beq_iff_eq.mpr c39; have c39b1 : (t129.toList != a0.toList) = false := bne_eq_false_iff_eq.mpr c39; clear c39; simp only [Option.some.injEq, Prod.mk.injEq] at H; obtain ⟨rfl, rfl⟩ := H; obtain ⟨Ao40, co40, eo40⟩ := Kd.R_slice HO_4.out; subst eo40; obtain ⟨Ao41, co41, eo41⟩ := Kd.R_slice HO_5.out; subst eo41; go_wp2_with (first | ((with_reducible refine gate_callee (f := 39) rfl ?_); refine goesL_ (some 60) rfl rfl Tryd.func39 (by kernel_rfl) rfl #[.slice Ao41 x5_1.length co41] rfl bM ?_; (with_reducible refine (spec_l22Stay.calls k1 _ _ x5_1 t125 true _ ?side1 ?side2 A36.out).mono ?_); (case side1 => repeat (first | exact (Kd.R_reads' HO_5.out).2.2 | (with_reducible refine Kd.C_alloc ?_ _) | (with_reducible refine Kd.C_drewN ?_ _) | (with_reducible refine Kd.C_drew ?_))); (case side2 => exact (Kd.R_reads' HO_5.out).2.1); rintro e w42 ⟨v127, rfl, ho0, hb⟩; refine ⟨_, rfl, ?_⟩; have n0_ := Aside0.mk (Kd.R_below (bR HO_4) hb); have n1_ := Aside0.mk (Kd.R_elder' (bR HO_5) (Kd.R_base ho0) hb); have n2_ := Aside0.mk (Kd.R_lower (Kd.R_new' ho0 (Kd.R_lt (bR HO_5))) (below_size (bC0 HB))); have n3_ := Aside0.mk (below_step (bC0 HB) hb); clear HO_4; clear HO_5; clear HB; have HO_4 := n0_; have HO_5 := n1_; have HO128 := n2_; have HB := n3_; clear n0_ n1_ n2_ n3_; (try clear hb); (try clear hb2); (try clear hk); (try clear hi); (try clear ho0); obtain ⟨Ao43, co43, eo43⟩ := Kd.R_slice HO128.out; subst eo43) | (go_at_call 29; (with_reducible refine (spec_l22Write.calls k1 _ _ t125 t129 _ ?side1 ?side2 A38.out).mono ?_); (case side1 => repeat (first | exact (Kd.R_reads' HO128.out).2.2 | (with_reducible refine Kd.C_alloc ?_ _) | (with_reducible refine Kd.C_drewN ?_ _) | (with_reducible refine Kd.C_drew ?_))); (case side2 => exact (Kd.R_reads' HO128.out).2.1); rintro e w44 ⟨rfl, hb⟩; have n0_ := Aside0.mk (Kd.R_below (bR HO_4) hb); have n1_ := Aside0.mk (Kd.R_below (bR HO_5) hb); have n2_ := Aside0.mk (Kd.R_below (bR HO128) hb); have n3_ := Aside0.mk (below_step (bC0 HB) hb); clear HO_4; clear HO_5; clear HO128; clear HB; have HO_4 := n0_; have HO_5 := n1_; have HO128 := n2_; have HB := n3_; clear n0_ n1_ n2_ n3_; (try clear hb); (try clear hb2); (try clear hk); (try clear hi))); go_ret2
       exact ⟨_, bE, by (with_reducible repeat (first | apply Kd.R_alloc | apply Kd.R_drewN | apply Kd.R_drew)); exact Kd.R_mono HO128.out (fun _ hk => trivial), (bC0 HB)⟩
      ·rw [if_neg c39] at H
       have c39b0 : (t129.toList == a0.toList) = false := beq_eq_false_iff_ne.mpr c39; have c39b1 : (t129.toList != a0.toList) = true := bne_iff_ne.mpr c39; obtain ⟨y130, hy130⟩ : ∃ y_ : List (S35), y_ = (([] : List (S35))) := ⟨_, rfl⟩
       replace H : (some (y130, false)) = some (r1, r2) := by first | (rw [hy130]; with_reducible exact H) | (have H2_ := (Option.bind_some _ _).symm.trans H; rw [hy130]; with_reducible exact H2_) | (have H2_ := (Option.bind_some _ _).symm.trans H; with_reducible exact H2_) | with_reducible exact H | (rw [hy130]; exact H) | exact H
       have Ny130 := Aside0.mk hy130; clear hy130; simp only [Option.some.injEq, Prod.mk.injEq] at H; obtain ⟨rfl, rfl⟩ := H; obtain ⟨Ao45, co45, eo45⟩ := Kd.R_slice HO_4.out; subst eo45; obtain ⟨Ao46, co46, eo46⟩ := Kd.R_slice HO_5.out; subst eo46; go_wp2_with (first | ((with_reducible refine gate_callee (f := 39) rfl ?_); refine goesL_ (some 60) rfl rfl Tryd.func39 (by kernel_rfl) rfl #[.slice Ao46 x5_1.length co46] rfl bM ?_; (with_reducible refine (spec_l22Stay.calls k1 _ _ x5_1 t125 true _ ?side1 ?side2 A36.out).mono ?_); (case side1 => repeat (first | exact (Kd.R_reads' HO_5.out).2.2 | (with_reducible refine Kd.C_alloc ?_ _) | (with_reducible refine Kd.C_drewN ?_ _) | (with_reducible refine Kd.C_drew ?_))); (case side2 => exact (Kd.R_reads' HO_5.out).2.1); rintro e w47 ⟨v127, rfl, ho0, hb⟩; refine ⟨_, rfl, ?_⟩; have n0_ := Aside0.mk (Kd.R_below (bR HO_4) hb); have n1_ := Aside0.mk (Kd.R_elder' (bR HO_5) (Kd.R_base ho0) hb); have n2_ := Aside0.mk (Kd.R_lower (Kd.R_new' ho0 (Kd.R_lt (bR HO_5))) (below_size (bC0 HB))); have n3_ := Aside0.mk (below_step (bC0 HB) hb); clear HO_4; clear HO_5; clear HB; have HO_4 := n0_; have HO_5 := n1_; have HO128 := n2_; have HB := n3_; clear n0_ n1_ n2_ n3_; (try clear hb); (try clear hb2); (try clear hk); (try clear hi); (try clear ho0); obtain ⟨Ao48, co48, eo48⟩ := Kd.R_slice HO128.out; subst eo48) | (go_at_call 29; (with_reducible refine (spec_l22Write.calls k1 _ _ t125 t129 _ ?side1 ?side2 A38.out).mono ?_); (case side1 => repeat (first | exact (Kd.R_reads' HO128.out).2.2 | (with_reducible refine Kd.C_alloc ?_ _) | (with_reducible refine Kd.C_drewN ?_ _) | (with_reducible refine Kd.C_drew ?_))); (case side2 => exact (Kd.R_reads' HO128.out).2.1); rintro e w49 ⟨rfl, hb⟩; have n0_ := Aside0.mk (Kd.R_below (bR HO_4) hb); have n1_ := Aside0.mk (Kd.R_below (bR HO_5) hb); have n2_ := Aside0.mk (Kd.R_below (bR HO128) hb); have n3_ := Aside0.mk (below_step (bC0 HB) hb); clear HO_4; clear HO_5; clear HO128; clear HB; have HO_4 := n0_; have HO_5 := n1_; have HO128 := n2_; have HB := n3_; clear n0_ n1_ n2_ n3_; (try clear hb); (try clear hb2); (try clear hk); (try clear hi)) | ((with_reducible refine gate_dst (N := 71) rfl ?_); refine Kd.R_lit k35 _ 35 ?hg (N := 71) ?hd (xs := ([] : List (S35))) (inner := []) (ok := fun _ => True) (okp := fun _ => True) ?hr ?hp (fun _ hk => hk) trivial (Below.refl _ _) (Nat.le_refl _) (by simp) ?_; (case hd => rfl); (case hg => rfl); (case hr => first | (go_simp; done) | (go_simp; rfl)); (case hp => exact (Reps.none _ _)); intro v131 w50 ho51 hb hg_ hnew_; clear hg_ hnew_; (first | rw [← Ny130.out] at ho51 | (simp only [Int.reduceToNat] at ho51; rw [← Ny130.out] at ho51)); have n0_ := Aside0.mk (Kd.R_below (bR HO_4) hb); have n1_ := Aside0.mk (Kd.R_elder' (bR HO_5) (Kd.R_base ho51) hb); have n2_ := Aside0.mk (Kd.R_elder' (bR HO128) (Kd.R_base ho51) hb); have n3_ := Aside0.mk (Kd.R_lower (Kd.R_new' (Kd.R_new' ho51 (Kd.R_lt (bR HO_5))) (Kd.R_lt (bR HO128))) (below_size (bC0 HB))); have n4_ := Aside0.mk (below_step (bC0 HB) hb); clear HO_4; clear HO_5; clear HO128; clear HB; have HO_4 := n0_; have HO_5 := n1_; have HO128 := n2_; have HO132 := n3_; have HB := n4_; clear n0_ n1_ n2_ n3_ n4_; clear hb ho51))
       go_ret2
       exact ⟨_, bE, by (with_reducible repeat (first | apply Kd.R_alloc | apply Kd.R_drewN | apply Kd.R_drew)); exact Kd.R_mono HO132.out (fun _ hk => trivial), (bC0 HB)⟩
     ·replace c37 := Bool.eq_false_iff.mpr c37
      subst c37
      have H1 : (some ((([] : List (S35))), false)) = some (r1, r2) := by rw [if_neg (show ¬ (false = true) by decide)] at H; exact H
      clear H; have H := H1; clear H1; obtain ⟨y133, hy133⟩ : ∃ y_ : List (S35), y_ = (([] : List (S35))) := ⟨_, rfl⟩
      replace H : (some (y133, false)) = some (r1, r2) := by first | (rw [hy133]; with_reducible exact H) | (have H2_ := (Option.bind_some _ _).symm.trans H; rw [hy133]; with_reducible exact H2_) | (have H2_ := (Option.bind_some _ _).symm.trans H; with_reducible exact H2_) | with_reducible exact H | (rw [hy133]; exact H) | exact H
      have Ny133 := Aside0.mk hy133; clear hy133; simp only [Option.some.injEq, Prod.mk.injEq] at H; obtain ⟨rfl, rfl⟩ := H; obtain ⟨Ao52, co52, eo52⟩ := Kd.R_slice HO_4.out; subst eo52; obtain ⟨Ao53, co53, eo53⟩ := Kd.R_slice HO_5.out; subst eo53; go_wp2_with (first | ((with_reducible refine gate_callee (f := 39) rfl ?_); refine goesL_ (some 60) rfl rfl Tryd.func39 (by kernel_rfl) rfl #[.slice Ao53 x5_1.length co53] rfl bM ?_; (with_reducible refine (spec_l22Stay.calls k1 _ _ x5_1 t125 false _ ?side1 ?side2 A36.out).mono ?_); (case side1 => repeat (first | exact (Kd.R_reads' HO_5.out).2.2 | (with_reducible refine Kd.C_alloc ?_ _) | (with_reducible refine Kd.C_drewN ?_ _) | (with_reducible refine Kd.C_drew ?_))); (case side2 => exact (Kd.R_reads' HO_5.out).2.1); rintro e w54 ⟨v127, rfl, ho0, hb⟩; refine ⟨_, rfl, ?_⟩; have n0_ := Aside0.mk (Kd.R_below (bR HO_4) hb); have n1_ := Aside0.mk (Kd.R_elder' (bR HO_5) (Kd.R_base ho0) hb); have n2_ := Aside0.mk (Kd.R_lower (Kd.R_new' ho0 (Kd.R_lt (bR HO_5))) (below_size (bC0 HB))); have n3_ := Aside0.mk (below_step (bC0 HB) hb); clear HO_4; clear HO_5; clear HB; have HO_4 := n0_; have HO_5 := n1_; have HO128 := n2_; have HB := n3_; clear n0_ n1_ n2_ n3_; (try clear hb); (try clear hb2); (try clear hk); (try clear hi); (try clear ho0)) | ((with_reducible refine gate_dst (N := 71) rfl ?_); refine Kd.R_lit k35 _ 35 ?hg (N := 71) ?hd (xs := ([] : List (S35))) (inner := []) (ok := fun _ => True) (okp := fun _ => True) ?hr ?hp (fun _ hk => hk) trivial (Below.refl _ _) (Nat.le_refl _) (by simp) ?_; (case hd => rfl); (case hg => rfl); (case hr => first | (go_simp; done) | (go_simp; rfl)); (case hp => exact (Reps.none _ _)); intro v134 w55 ho56 hb hg_ hnew_; clear hg_ hnew_; (first | rw [← Ny133.out] at ho56 | (simp only [Int.reduceToNat] at ho56; rw [← Ny133.out] at ho56)); have n0_ := Aside0.mk (Kd.R_below (bR HO_4) hb); have n1_ := Aside0.mk (Kd.R_elder' (bR HO_5) (Kd.R_base ho56) hb); have n2_ := Aside0.mk (Kd.R_elder' (bR HO128) (Kd.R_base ho56) hb); have n3_ := Aside0.mk (Kd.R_lower (Kd.R_new' (Kd.R_new' ho56 (Kd.R_lt (bR HO_5))) (Kd.R_lt (bR HO128))) (below_size (bC0 HB))); have n4_ := Aside0.mk (below_step (bC0 HB) hb); clear HO_4; clear HO_5; clear HO128; clear HB; have HO_4 := n0_; have HO_5 := n1_; have HO128 := n2_; have HO135 := n3_; have HB := n4_; clear n0_ n1_ n2_ n3_ n4_; clear hb ho56)); go_ret2
      exact ⟨_, bE, by (with_reducible repeat (first | apply Kd.R_alloc | apply Kd.R_drewN | apply Kd.R_drew)); exact Kd.R_mono HO135.out (fun _ hk => trivial), (bC0 HB)⟩
set_option linter.unusedVariables false
set_option linter.unusedSimpArgs false
def spec_l2Dot.f (a0_0 : Int) (a0_1 : Int) (a1_0 : Int) (a1_1 : Int) (a2_0 : Int) (a2_1 : Int) : Option (Int) := some (wrap64 ((wrap64 ((wrap64 (a1_0 - a0_0)) * (wrap64 (a2_0 - a0_0)))) + (wrap64 ((wrap64 (a1_1 - a0_1)) * (wrap64 (a2_1 - a0_1))))))
set_option maxHeartbeats 8000000 in
set_option maxRecDepth 100000 in
theorem spec_l2Dot.calls (a0_0 : Int) (a0_1 : Int) (a1_0 : Int) (a1_1 : Int) (a2_0 : Int) (a2_1 : Int) (r : Int) (w : World) (h : spec_l2Dot.f a0_0 a0_1 a1_0 a1_1 a2_0 a2_1 = some r) :
  Calls Tryd.prog 64 #[.agg #[.int .i64 a0_0, .int .i64 a0_1], .agg #[.int .i64 a1_0, .int .i64 a1_1], .agg #[.int .i64 a2_0, .int .i64 a2_1]] w fun e w' => e = .returned (.int .i64 r) ∧ Below w.heap.size w w' := by
 have hu35 := Tryd.underlying35; have HB := Aside0.mk (Below.refl w.heap.size w); have H : (some (wrap64 ((wrap64 ((wrap64 (a1_0 - a0_0)) * (wrap64 (a2_0 - a0_0)))) + (wrap64 ((wrap64 (a1_1 - a0_1)) * (wrap64 (a2_1 - a0_1))))))) = some r := h; clear h; obtain rfl := Option.some.inj H; go_enter Tryd.func64, Tryd.ntmps64; go_wp2_with (first | ((with_reducible refine gate_dst (N := 3) rfl ?_); refine box_event ?hg (N := 3) ?hd (cs := #[.int .i64 a0_0, .int .i64 a0_1]) (t := 35) ?hr ?_; (case hd => rfl); (case hg => rfl); (case hr => first | (go_simp; done) | (go_simp; rfl)); intro gb101 hg w4 hbox hb; have n0_ := Aside0.mk (below_step (bC0 HB) hb); have n1_ := Aside0.mk (hbox); have n2_ := Aside0.mk ((by rw [hg]; exact (below_size (bC0 HB)) : w.heap.size ≤ gb101)); have n3_ := Aside0.mk ((by rw [hg]; exact (below_size (bC0 HB)) : w.heap.size ≤ gb101)); clear HB; have HB := n0_; have BK101 := n1_; have GW101 := n2_; have GE101 := n3_; clear n0_ n1_ n2_ n3_; clear hb hbox hg) | ((with_reducible refine gate_dst (N := 4) rfl ?_); refine box_event ?hg (N := 4) ?hd (cs := #[.int .i64 a1_0, .int .i64 a1_1]) (t := 35) ?hr ?_; (case hd => rfl); (case hg => rfl); (case hr => first | (go_simp; done) | (go_simp; rfl)); intro gb102 hg w5 hbox hb; have n0_ := Aside0.mk (blk_below (g := gb101) (o := .cells #[.int .i64 a0_0, .int .i64 a0_1] 35 (0, 0)) (bA BK101) hb); have n1_ := Aside0.mk (below_step (bC1 HB GE101.out) hb); have n2_ := Aside0.mk (hbox); have n3_ := Aside0.mk ((by rw [hg]; exact (below_size (bC1 HB GE101.out)) : w.heap.size ≤ gb102)); have n4_ := Aside0.mk ((by rw [hg]; exact (below_size (bC1 HB GE101.out)) : w.heap.size ≤ gb102)); have n5_ := Aside0.mk ((by rw [hg]; exact Nat.ne_of_lt (blk_lt (g := gb101) (o := .cells #[.int .i64 a0_0, .int .i64 a0_1] 35 (0, 0)) (bA BK101)) : gb101 ≠ gb102)); have n6_ := Aside0.mk ((by rw [hg]; exact Nat.ne_of_gt (blk_lt (g := gb101) (o := .cells #[.int .i64 a0_0, .int .i64 a0_1] 35 (0, 0)) (bA BK101)) : gb102 ≠ gb101)); clear BK101; clear HB; have BK101 := n0_; have HB := n1_; have BK102 := n2_; have GW102 := n3_; have GE102 := n4_; have NB101_102 := n5_; have NB102_101 := n6_; clear n0_ n1_ n2_ n3_ n4_ n5_ n6_; clear hb hbox hg) | ((with_reducible refine gate_dst (N := 5) rfl ?_); refine box_event ?hg (N := 5) ?hd (cs := #[.int .i64 a2_0, .int .i64 a2_1]) (t := 35) ?hr ?_; (case hd => rfl); (case hg => rfl); (case hr => first | (go_simp; done) | (go_simp; rfl)); intro gb103 hg w6 hbox hb; have n0_ := Aside0.mk (blk_below (g := gb101) (o := .cells #[.int .i64 a0_0, .int .i64 a0_1] 35 (0, 0)) (bA BK101) hb); have n1_ := Aside0.mk (blk_below (g := gb102) (o := .cells #[.int .i64 a1_0, .int .i64 a1_1] 35 (0, 0)) (bA BK102) hb); have n2_ := Aside0.mk (below_step (bC2 HB GE101.out GE102.out) hb); have n3_ := Aside0.mk (hbox); have n4_ := Aside0.mk ((by rw [hg]; exact (below_size (bC2 HB GE101.out GE102.out)) : w.heap.size ≤ gb103)); have n5_ := Aside0.mk ((by rw [hg]; exact (below_size (bC2 HB GE101.out GE102.out)) : w.heap.size ≤ gb103)); have n6_ := Aside0.mk ((by rw [hg]; exact Nat.ne_of_lt (blk_lt (g := gb101) (o := .cells #[.int .i64 a0_0, .int .i64 a0_1] 35 (0, 0)) (bA BK101)) : gb101 ≠ gb103)); have n7_ := Aside0.mk ((by rw [hg]; exact Nat.ne_of_gt (blk_lt (g := gb101) (o := .cells #[.int .i64 a0_0, .int .i64 a0_1] 35 (0, 0)) (bA BK101)) : gb103 ≠ gb101)); have n8_ := Aside0.mk ((by rw [hg]; exact Nat.ne_of_lt (blk_lt (g := gb102) (o := .cells #[.int .i64 a1_0, .int .i64 a1_1] 35 (0, 0)) (bA BK102)) : gb102 ≠ gb103)); have n9_ := Aside0.mk ((by rw [hg]; exact Nat.ne_of_gt (blk_lt (g := gb102) (o := .cells #[.int .i64 a1_0, .int .i64 a1_1] 35 (0, 0)) (bA BK102)) : gb103 ≠ gb102)); clear BK101; clear BK102; clear HB; have BK101 := n0_; have BK102 := n1_; have HB := n2_; have BK103 := n3_; have GW103 := n4_; have GE103 := n5_; have NB101_103 := n6_; have NB103_101 := n7_; have NB102_103 := n8_; have NB103_102 := n9_; clear n0_ n1_ n2_ n3_ n4_ n5_ n6_ n7_ n8_ n9_; clear hb hbox hg; have hnb7 := NB102_101.out; have hnc7 := NB101_102.out; have hnb8 := NB102_103.out; have hnc8 := NB103_102.out; have hcz9_0 : w6.cell? ⟨gb102, 0, none⟩ = some (.int .i64 a1_0) := (blk_cell BK102.out 0).trans rfl; have hcz9_1 : w6.cell? ⟨gb102, 1, none⟩ = some (.int .i64 a1_1) := (blk_cell BK102.out 1).trans rfl; have hfz9_0 := blk_frozen BK102.out 0; have hfz9_1 := blk_frozen BK102.out 1; have hnb10 := NB101_103.out; have hnc10 := NB103_101.out; have hcz11_0 : w6.cell? ⟨gb101, 0, none⟩ = some (.int .i64 a0_0) := (blk_cell BK101.out 0).trans rfl; have hcz11_1 : w6.cell? ⟨gb101, 1, none⟩ = some (.int .i64 a0_1) := (blk_cell BK101.out 1).trans rfl; have hfz11_0 := blk_frozen BK101.out 0; have hfz11_1 := blk_frozen BK101.out 1; have hcz12_0 : w6.cell? ⟨gb103, 0, none⟩ = some (.int .i64 a2_0) := (blk_cell BK103.out 0).trans rfl; have hcz12_1 : w6.cell? ⟨gb103, 1, none⟩ = some (.int .i64 a2_1) := (blk_cell BK103.out 1).trans rfl; have hfz12_0 := blk_frozen BK103.out 0; have hfz12_1 := blk_frozen BK103.out 1))
 go_ret
 exact ⟨bE, (bC3 HB GE101.out GE102.out GE103.out)⟩
set_option linter.unusedVariables false
set_option linter.unusedSimpArgs false
def spec_l13Beside.f (a0_0 : Int) (a0_1 : Int) (a1_0 : Int) (a1_1 : Int) : Option (Bool) := (spec_l2Dot.f a0_0 a0_1 a1_0 a1_1 a1_0 a1_1).bind fun t103 => (some (t103 == 1))
set_option maxHeartbeats 8000000 in
set_option maxRecDepth 100000 in
theorem spec_l13Beside.calls (a0_0 : Int) (a0_1 : Int) (a1_0 : Int) (a1_1 : Int) (r : Bool) (w : World) (h : spec_l13Beside.f a0_0 a0_1 a1_0 a1_1 = some r) :
  Calls Tryd.prog 53 #[.agg #[.int .i64 a0_0, .int .i64 a0_1], .agg #[.int .i64 a1_0, .int .i64 a1_1]] w fun e w' => e = .returned (.bool r) ∧ Below w.heap.size w w' := by
 have hu35 := Tryd.underlying35; have HB := Aside0.mk (Below.refl w.heap.size w); have H : ((spec_l2Dot.f a0_0 a0_1 a1_0 a1_1 a1_0 a1_1).bind fun t103 => (some (t103 == 1))) = some r := h; clear h; replace H := Option.bind_eq_some_iff.mp H; obtain ⟨t103, A30, H⟩ := H; replace H : (some (t103 == 1)) = some r := H; have A3 := Aside0.mk A30; clear A30; obtain rfl := Option.some.inj H; go_enter Tryd.func53, Tryd.ntmps53; go_wp2_with (first | ((with_reducible refine gate_dst (N := 2) rfl ?_); refine box_event ?hg (N := 2) ?hd (cs := #[.int .i64 a0_0, .int .i64 a0_1]) (t := 35) ?hr ?_; (case hd => rfl); (case hg => rfl); (case hr => first | (go_simp; done) | (go_simp; rfl)); intro gb101 hg w4 hbox hb; have n0_ := Aside0.mk (below_step (bC0 HB) hb); have n1_ := Aside0.mk (hbox); have n2_ := Aside0.mk ((by rw [hg]; exact (below_size (bC0 HB)) : w.heap.size ≤ gb101)); have n3_ := Aside0.mk ((by rw [hg]; exact (below_size (bC0 HB)) : w.heap.size ≤ gb101)); clear HB; have HB := n0_; have BK101 := n1_; have GW101 := n2_; have GE101 := n3_; clear n0_ n1_ n2_ n3_; clear hb hbox hg) | ((with_reducible refine gate_dst (N := 3) rfl ?_); refine box_event ?hg (N := 3) ?hd (cs := #[.int .i64 a1_0, .int .i64 a1_1]) (t := 35) ?hr ?_; (case hd => rfl); (case hg => rfl); (case hr => first | (go_simp; done) | (go_simp; rfl)); intro gb102 hg w5 hbox hb; have n0_ := Aside0.mk (blk_below (g := gb101) (o := .cells #[.int .i64 a0_0, .int .i64 a0_1] 35 (0, 0)) (bA BK101) hb); have n1_ := Aside0.mk (below_step (bC1 HB GE101.out) hb); have n2_ := Aside0.mk (hbox); have n3_ := Aside0.mk ((by rw [hg]; exact (below_size (bC1 HB GE101.out)) : w.heap.size ≤ gb102)); have n4_ := Aside0.mk ((by rw [hg]; exact (below_size (bC1 HB GE101.out)) : w.heap.size ≤ gb102)); have n5_ := Aside0.mk ((by rw [hg]; exact Nat.ne_of_lt (blk_lt (g := gb101) (o := .cells #[.int .i64 a0_0, .int .i64 a0_1] 35 (0, 0)) (bA BK101)) : gb101 ≠ gb102)); have n6_ := Aside0.mk ((by rw [hg]; exact Nat.ne_of_gt (blk_lt (g := gb101) (o := .cells #[.int .i64 a0_0, .int .i64 a0_1] 35 (0, 0)) (bA BK101)) : gb102 ≠ gb101)); clear BK101; clear HB; have BK101 := n0_; have HB := n1_; have BK102 := n2_; have GW102 := n3_; have GE102 := n4_; have NB101_102 := n5_; have NB102_101 := n6_; clear n0_ n1_ n2_ n3_ n4_ n5_ n6_; clear hb hbox hg; have hnb6 := NB101_102.out; have hnc6 := NB102_101.out; have hcz7_0 : w5.cell? ⟨gb101, 0, none⟩ = some (.int .i64 a0_0) := (blk_cell BK101.out 0).trans rfl; have hcz7_1 : w5.cell? ⟨gb101, 1, none⟩ = some (.int .i64 a0_1) := (blk_cell BK101.out 1).trans rfl; have hfz7_0 := blk_frozen BK101.out 0; have hfz7_1 := blk_frozen BK101.out 1; have hcz8_0 : w5.cell? ⟨gb102, 0, none⟩ = some (.int .i64 a1_0) := (blk_cell BK102.out 0).trans rfl; have hcz8_1 : w5.cell? ⟨gb102, 1, none⟩ = some (.int .i64 a1_1) := (blk_cell BK102.out 1).trans rfl; have hfz8_0 := blk_frozen BK102.out 0; have hfz8_1 := blk_frozen BK102.out 1) | ((with_reducible refine gate_callee (f := 64) rfl ?_); refine goesL_ (some 8) rfl rfl Tryd.func64 (by kernel_rfl) rfl #[.agg #[.int .i64 a0_0, .int .i64 a0_1], .agg #[.int .i64 a1_0, .int .i64 a1_1], .agg #[.int .i64 a1_0, .int .i64 a1_1]] rfl bM ?_; (with_reducible refine (spec_l2Dot.calls a0_0 a0_1 a1_0 a1_1 a1_0 a1_1 t103 _ A3.out).mono ?_); rintro e w9 ⟨rfl, hb⟩; refine ⟨_, rfl, ?_⟩; have n0_ := Aside0.mk (blk_below (g := gb101) (o := .cells #[.int .i64 a0_0, .int .i64 a0_1] 35 (0, 0)) (bA BK101) hb); have n1_ := Aside0.mk (blk_below (g := gb102) (o := .cells #[.int .i64 a1_0, .int .i64 a1_1] 35 (0, 0)) (bA BK102) hb); have n2_ := Aside0.mk (below_step (bC2 HB GE101.out GE102.out) hb); clear BK101; clear BK102; clear HB; have BK101 := n0_; have BK102 := n1_; have HB := n2_; clear n0_ n1_ n2_; (try clear hb); (try clear hb2); (try clear hk); (try clear hi)))
 go_ret
 exact ⟨bE, (bC2 HB GE101.out GE102.out)⟩
end Go.Proofs.YtdacpdhpifocbaaDoor.P
