/- Part 3 of what Turns rests on: contracts of the program's functions and plain facts (the print's texts and the session's own, put together). -/
import Derived.Test.YtdacpdhpifocbaaBTurns1
namespace Go.Proofs.Ytdacpdhpifocbaa.P
open Go.RowKit Go.Proofs.YtdacpdhpifocbaaW.PrintWords Go.Proofs.YtdacpdhpifocbaaW.PrintLast Go.Proofs.YtdacpdhpifocbaaW.PrintMore
attribute [local go_sem] max2_int min2_int max_two min_two max_three min_three max_four min_four   -- for this text's walks alone
set_option linter.unusedVariables false
set_option linter.unusedSimpArgs false

/-! ### impl_CodeTurns: function 12 -/
def impl_CodeTurns.l0 : Nat → List (S38) → List (S38) → Int → List (S38) → Int → Int → Option ((List (S38)))
  | 0, _, _, _, _, _, _ => none
  | k + 1, x0, x3, x4, x13, x14, x15 => if x15 < x14 then (if 0 ≤ x15 then (if x15 < (x13.length : Int) then (if x15 = 0 then (if x3.length < 8796093022208 then (impl_CodeTurns.l0 k x0 (x3 ++ [(⟨(rd_T38 x13 x15).f0, (rd_T38 x13 x15).f1⟩ : S38)]) x4 x13 x14 (wrap64 (x15 + 1))) else (none)) else (if x15 = x4 then (if x3.length < 8796093022208 then (impl_CodeTurns.l0 k x0 (x3 ++ [(⟨(rd_T38 x13 x15).f0, (rd_T38 x13 x15).f1⟩ : S38)]) x4 x13 x14 (wrap64 (x15 + 1))) else (none)) else (if 0 ≤ (wrap64 (x15 - 1)) then (if (wrap64 (x15 - 1)) < (x0.length : Int) then (if 0 ≤ (wrap64 (x15 + 1)) then (if (wrap64 (x15 + 1)) < (x0.length : Int) then ((impl_goesOn.f ((rd_T38 x0 (wrap64 (x15 - 1))).f0) ((rd_T38 x0 (wrap64 (x15 - 1))).f1) ((rd_T38 x13 x15).f0) ((rd_T38 x13 x15).f1) ((rd_T38 x0 (wrap64 (x15 + 1))).f0) ((rd_T38 x0 (wrap64 (x15 + 1))).f1)).bind fun t112 => (if t112 = true then (impl_CodeTurns.l0 k x0 x3 x4 x13 x14 (wrap64 (x15 + 1))) else (if x3.length < 8796093022208 then (impl_CodeTurns.l0 k x0 (x3 ++ [(⟨(rd_T38 x13 x15).f0, (rd_T38 x13 x15).f1⟩ : S38)]) x4 x13 x14 (wrap64 (x15 + 1))) else (none)))) else (none)) else (none)) else (none)) else (none)))) else (none)) else (none)) else (some x3)
def impl_CodeTurns.f (k : Nat) (l0 : List (S38)) : Option ((List (S38))) := (impl_isPath.f k l0).bind fun t101 => (if t101 = true then (impl_CodeTurns.l0 k l0 ([] : List (S38)) (wrap64 ((l0.length : Int) - 1)) l0 (l0.length : Int) 0) else (some ([] : List (S38))))
theorem impl_CodeTurns.mono_l : ∀ k, (∀ y0 y1 y2 y3 y4 y5, LeO (impl_CodeTurns.l0 k y0 y1 y2 y3 y4 y5) (impl_CodeTurns.l0 (k + 1) y0 y1 y2 y3 y4 y5))
  | 0 => fun _ _ _ _ _ _ r h => by simp [impl_CodeTurns.l0] at h
  | k + 1 => by
    have ih0 := impl_CodeTurns.mono_l k
    · intro y0 y1 y2 y3 y4 y5
      unfold impl_CodeTurns.l0
      repeat' first
      | (with_reducible exact ih0 _ _ _ _ _ _)
      | (with_reducible exact impl_isPath.mono _ _)
      | (with_reducible exact LeO.refl _)
      | (with_reducible exact LeO.none _)
      | (with_reducible refine LeO.ite ?_ ?_)
      | (with_reducible refine LeO.bind ?_ (fun _ => ?_))
      | exact ih0 _ _ _ _ _ _
      | exact impl_isPath.mono _ _
      | exact LeO.none _
      | refine LeO.ite ?_ ?_
      | refine LeO.bind ?_ (fun _ => ?_)
theorem impl_CodeTurns.mono : ∀ a0 k, LeO (impl_CodeTurns.f k a0) (impl_CodeTurns.f (k + 1) a0) := by
  intro a0 k
  have ih0 := impl_CodeTurns.mono_l k
  unfold impl_CodeTurns.f
  repeat' first
      | (with_reducible exact ih0 _ _ _ _ _ _)
      | (with_reducible exact impl_isPath.mono _ _)
      | (with_reducible exact LeO.refl _)
      | (with_reducible exact LeO.none _)
      | (with_reducible refine LeO.ite ?_ ?_)
      | (with_reducible refine LeO.bind ?_ (fun _ => ?_))
      | exact ih0 _ _ _ _ _ _
      | exact impl_isPath.mono _ _
      | exact LeO.none _
      | refine LeO.ite ?_ ?_
      | refine LeO.bind ?_ (fun _ => ?_)
def impl_CodeTurns.T8 : Bool × List (List Nat × List Nat) := (true, [([], []), ([0], [0]), ([1], [1]), ([2], [2]), ([2], [2]), ([3, 4, 2], [2, 3, 4]), ([2, 5], [2, 5]), ([6, 2], [6]), ([7], [7]), ([7], [7]), ([9, 7], [7, 9]), ([8, 10, 7], [7, 8, 10]), ([11, 7], [7, 11]), ([7], [7]), ([7], [7]), ([7], [7]), ([15, 7], [7, 15]), ([14, 16, 7], [7, 14, 16]), ([17, 7], [7, 17]), ([12, 13, 18, 7, 7], [7, 12, 13, 18]), ([19, 7], [7, 19]), ([7, 20], [7, 20])])
def impl_CodeTurns.B8 : List Nat := [0, 1, 3, 7, 7, 31, 63, 127, 255, 255, 767, 2047, 4095, 255, 255, 255, 33023, 114943, 246015, 524287, 1048575, 2097151]
theorem impl_CodeTurns.tab8 : rtab .any (opsOf Try.f12 8) = impl_CodeTurns.T8 := by kernel_rfl
theorem impl_CodeTurns.bits8 : waitsOk impl_CodeTurns.T8.2 impl_CodeTurns.B8 = true := by kernel_rfl
abbrev impl_CodeTurns.y_ : Bool := true
abbrev impl_CodeTurns.n_ : Bool := false
set_option maxHeartbeats 8000000 in
set_option maxRecDepth 100000 in
theorem impl_CodeTurns.calls (k : Nat) (A0 : Option Addr) (c0 : Nat) (l0 : List (S38)) (r : List (S38)) (w : World) (hr0 : Kd.C k38 w A0 l0.length l0) (hc0 : l0.length ≤ c0) (h : impl_CodeTurns.f k l0 = some r) :
  Calls Try.prog 12 #[.slice A0 l0.length c0] w fun e w' => ∃ v0_ : Value, e = .returned (v0_) ∧ Kd.R k38 38 w' w.heap.size (fun _ => True) v0_ r ∧ Below w.heap.size w w' := by
 have hu38 := Try.underlying38; have HR0 := Aside0.mk hr0; have HC0 := Aside0.mk hc0; clear hr0 hc0; have HB := Aside0.mk (Below.refl w.heap.size w); have H : ((impl_isPath.f k l0).bind fun t101 => (if t101 = true then (impl_CodeTurns.l0 k l0 ([] : List (S38)) (wrap64 ((l0.length : Int) - 1)) l0 (l0.length : Int) 0) else (some ([] : List (S38))))) = some r := h; clear h; replace H := Option.bind_eq_some_iff.mp H; obtain ⟨t101, A20, H⟩ := H; replace H : (if t101 = true then (impl_CodeTurns.l0 k l0 ([] : List (S38)) (wrap64 ((l0.length : Int) - 1)) l0 (l0.length : Int) 0) else (some ([] : List (S38)))) = some r := H; have A2 := Aside0.mk A20; clear A20
 by_cases c3 : t101 = true
 ·subst c3
  have H1 : (impl_CodeTurns.l0 k l0 ([] : List (S38)) (wrap64 ((l0.length : Int) - 1)) l0 (l0.length : Int) 0) = some r := by rw [if_pos rfl] at H; exact H
  clear H; have H := H1; clear H1; have H' := Aside0.mk H; clear H; go_enter Try.func12, Try.ntmps12; go_wp2_with (first | ((with_reducible refine gate_callee (f := 30) rfl ?_); refine goesL_ (some 8) rfl rfl Try.func30 (by kernel_rfl) rfl #[.slice A0 l0.length c0] rfl (by (try simp only [List.map_toArray, List.map_cons, List.map_nil]); first | done | rfl | (simp only [List.length_drop, List.length_take]; rfl)) ?_; (with_reducible refine (impl_isPath.calls k _ _ l0 true _ ?side1 ?side2 A2.out).mono ?_); (case side1 => repeat (first | exact HR0.out | (with_reducible refine Kd.C_alloc ?_ _) | (with_reducible refine Kd.C_drewN ?_ _) | (with_reducible refine Kd.C_drew ?_))); (case side2 => exact HC0.out); rintro e w4 ⟨rfl, hb⟩; refine ⟨_, rfl, ?_⟩; have n0_ := Aside0.mk (below_step (by repeat (first | (with_reducible first | exact HB.out | apply below_alloc | apply pw_below_drewN | apply below_drew1) | exact HB.out)) hb); clear HB; have HB := n0_; clear n0_; (try clear hb); (try clear hb2); (try clear hk); (try clear hi))); go_loopg [3, 15] k (fun kq v3 v15 w' => ∃ (x3_1 : List (S38)) (x15_1 : Int), v15 = .int .i64 x15_1 ∧ Aside0 (impl_CodeTurns.l0 kq l0 x3_1 (wrap64 ((l0.length : Int) - 1)) l0 (l0.length : Int) x15_1 = some r) ∧ Aside0 (kq ≤ k) ∧ Aside0 (Kd.R k38 38 w' w.heap.size (fun _ => True) v3 x3_1) ∧ Aside0 (Below w.heap.size w w'))
  case atStart => exact ⟨(([] : List (S38))), (0), (by first | rfl | (simp; done) | (simp [*]; done)), H', ⟨Nat.le_refl _⟩, ⟨by first | exact Kd.R_nil _ _ _ _ _ | exact Kd.N_nil _ _ _ _ _ | exact Kd.V_nil _ _ _ _ _ | exact Kd.Q_nil _ _ _ _ _ | exact Kd.S_nil _ _ _ _ _⟩, ⟨by repeat (first | (with_reducible first | exact HB.out | apply below_alloc | apply pw_below_drewN | apply below_drew1) | exact HB.out)⟩⟩
  case round =>
   clear H'
   try clear c1
   try clear p2
   try clear c3
   obtain ⟨x3_1, x15_1, rfl, HA, HK1, HO_3, HB⟩ := hrel
   cases gk with
   | zero => exact absurd HA.out (by simp [impl_CodeTurns.l0])
   | succ k1 =>
    have H := HA.out; clear HA; simp only [impl_CodeTurns.l0] at H
    by_cases c5 : x15_1 < (l0.length : Int)
    ·rw [if_pos c5] at H
     have c5b0 : decide (x15_1 < (l0.length : Int)) = true := decide_eq_true c5; clear c5
     by_cases c6 : 0 ≤ x15_1
     ·rw [if_pos c6] at H
      have c6b0 : decide (0 ≤ x15_1) = true := decide_eq_true c6; clear c6
      by_cases c7 : x15_1 < (l0.length : Int)
      ·rw [if_pos c7] at H
       have c7b0 : decide (x15_1 < (l0.length : Int)) = true := decide_eq_true c7; clear c7
       by_cases c8 : x15_1 = 0
       ·rw [if_pos c8] at H
        have c8b0 : (x15_1 == 0) = true := beq_iff_eq.mpr c8; have c8b1 : (x15_1 != 0) = false := bne_eq_false_iff_eq.mpr c8; clear c8
        by_cases c9 : x3_1.length < 8796093022208
        ·rw [if_pos c9] at H
         have LMc9 := Aside0.mk c9; clear c9; obtain ⟨y104, hy104⟩ : ∃ y_ : List (S38), y_ = (x3_1 ++ [(⟨(rd_T38 l0 x15_1).f0, (rd_T38 l0 x15_1).f1⟩ : S38)]) := ⟨_, rfl⟩
         replace H : (impl_CodeTurns.l0 k1 l0 y104 (wrap64 ((l0.length : Int) - 1)) l0 (l0.length : Int) (wrap64 (x15_1 + 1))) = some r := by first | (rw [hy104]; with_reducible exact H) | (have H2_ := (Option.bind_some _ _).symm.trans H; rw [hy104]; with_reducible exact H2_) | (have H2_ := (Option.bind_some _ _).symm.trans H; with_reducible exact H2_) | with_reducible exact H | (rw [hy104]; exact H) | exact H
         have Ny104 := Aside0.mk hy104; clear hy104; have H' := Aside0.mk H; clear H; have p102 : 0 ≤ (x15_1 : Int) := of_decide_eq_true (by first | (with_reducible assumption) | assumption); have q102 : x15_1 < (l0.length : Int) := of_decide_eq_true (by first | (with_reducible assumption) | assumption); obtain ⟨ad102, e102, hx102_0, hx102_1⟩ := at_T38 HR0.out x15_1 p102 q102
         cases e102
         replace hx102_0 := (HB.out.cell (World.block_lt_of_cell? w _ hx102_0)).trans hx102_0; replace hx102_1 := (HB.out.cell (World.block_lt_of_cell? w _ hx102_1)).trans hx102_1; replace p102 := eq_true p102; replace q102 := eq_true q102
         try go_wp2_with (first | ((with_reducible refine gate_dst (N := 6) rfl ?_); refine box_event ?hg (N := 6) ?hd (cs := #[.int .i64 0, .int .i64 0]) (t := 38) ?hr ?_; (case hd => rfl); (case hg => rfl); (case hr => first | (go_simp; done) | (go_simp; rfl)); intro gb103 hg w10 hbox hb; have n0_ := Aside0.mk (Kd.R_below (Kd.R_elderB (by (with_reducible repeat (first | apply Kd.R_alloc | apply Kd.R_drewN | apply Kd.R_drew)); exact HO_3.out) gb103 (Nat.le_of_eq hg.symm)) hb); have n1_ := Aside0.mk (below_step (by repeat (first | (with_reducible first | exact HB.out | apply below_alloc | apply pw_below_drewN | apply below_drew1) | exact HB.out)) hb); have n2_ := Aside0.mk (hbox); have n3_ := Aside0.mk ((by rw [hg]; exact (below_size (by repeat (first | (with_reducible first | exact HB.out | apply below_alloc | apply pw_below_drewN | apply below_drew1) | exact HB.out))) : w.heap.size ≤ gb103)); have n4_ := Aside0.mk ((by rw [hg]; exact (below_size (by repeat (first | (with_reducible first | exact HB.out | apply below_alloc | apply pw_below_drewN | apply below_drew1) | exact HB.out))) : w.heap.size ≤ gb103)); clear HO_3; clear HB; have HO_3 := n0_; have HB := n1_; have BK103 := n2_; have GW103 := n3_; have GE103 := n4_; clear n0_ n1_ n2_ n3_ n4_; clear hb hbox hg; have hcz11_0 : w10.cell? ⟨gb103, 0, none⟩ = some (.int .i64 0) := (blk_cell BK103.out 0).trans rfl; have hcz11_1 : w10.cell? ⟨gb103, 1, none⟩ = some (.int .i64 0) := (blk_cell BK103.out 1).trans rfl; have hfz11_0 := blk_frozen BK103.out 0; have hfz11_1 := blk_frozen BK103.out 1))
         have n0_ : Aside0 (Kd.R k38 38 ((w10.setCell ⟨gb103, 0, none⟩ (.int .i64 ((rd_T38 l0 x15_1).f0))).setCell ⟨gb103, 1, none⟩ (.int .i64 ((rd_T38 l0 x15_1).f1))) w.heap.size (fun k_ => k_ ≠ gb103) u3 x3_1) := ⟨by (with_reducible repeat (first | apply Kd.R_alloc | apply Kd.R_drewN | apply Kd.R_drew)); exact Kd.R_mono (Kd.R_far (p := ⟨gb103, 1, none⟩) (Kd.R_far (p := ⟨gb103, 0, none⟩) (Kd.R_mono HO_3.out (fun k_ hk => (⟨hk, hk.2⟩ : _ ∧ k_ ≠ gb103))) (fun _ hk => hk.2) (.int .i64 ((rd_T38 l0 x15_1).f0))) (fun _ hk => hk.2) (.int .i64 ((rd_T38 l0 x15_1).f1))) (fun _ hk => hk.1.2)⟩; have n1_ : Aside0 (((w10.setCell ⟨gb103, 0, none⟩ (.int .i64 ((rd_T38 l0 x15_1).f0))).setCell ⟨gb103, 1, none⟩ (.int .i64 ((rd_T38 l0 x15_1).f1))).heap[gb103]? = some (.cells #[.int .i64 ((rd_T38 l0 x15_1).f0), .int .i64 ((rd_T38 l0 x15_1).f1)] 38 (0, 0))) := ⟨by (with_reducible repeat (first | refine blk_drewN ?_ _ | refine blk_drew ?_ | refine blk_alloc ?_ _)); refine blk_put (cs := #[.int .i64 ((rd_T38 l0 x15_1).f0), .int .i64 0]) ?_ 1 _ rfl; (with_reducible repeat (first | refine blk_drewN ?_ _ | refine blk_drew ?_ | refine blk_alloc ?_ _)); refine blk_put (cs := #[.int .i64 0, .int .i64 0]) ?_ 0 _ rfl; (with_reducible repeat (first | refine blk_drewN ?_ _ | refine blk_drew ?_ | refine blk_alloc ?_ _)); exact BK103.out⟩; have n2_ : Aside0 (Below w.heap.size w ((w10.setCell ⟨gb103, 0, none⟩ (.int .i64 ((rd_T38 l0 x15_1).f0))).setCell ⟨gb103, 1, none⟩ (.int .i64 ((rd_T38 l0 x15_1).f1)))) := ⟨by repeat (first | (with_reducible first | exact HB.out | apply below_alloc | apply pw_below_drewN | apply below_drew1 | refine below_set ?_ GE103.out) | exact HB.out)⟩; (try clear HO_3); (try clear BK103); (try clear HB); generalize ((w10.setCell ⟨gb103, 0, none⟩ (.int .i64 ((rd_T38 l0 x15_1).f0))).setCell ⟨gb103, 1, none⟩ (.int .i64 ((rd_T38 l0 x15_1).f1))) = w12 at n0_ n1_ n2_ ⊢; have HO_3 := n0_; have BK103 := n1_; have HB := n2_; clear n0_ n1_ n2_; have n0_ := Aside0.mk (Kd.R_drew HO_3.out); have n1_ := Aside0.mk (blk_drew BK103.out); have n2_ := Aside0.mk (below_drew1 HB.out); clear HO_3; clear BK103; clear HB; have HO_3 := n0_; have BK103 := n1_; have HB := n2_; clear n0_ n1_ n2_; refine start_ (n := 22) (S := fun w' => True) (ds := []) #[n_,n_,n_,n_,n_,n_,n_,n_,n_,n_,n_,n_,n_,n_,n_,n_,n_,n_,n_,n_,n_,n_] (by kernel_rfl) rfl rfl trivial (fun hHeld => ?_); refine with_tabW impl_CodeTurns.tab8 impl_CodeTurns.bits8 (fun HT_ HW_ => ?_); generalize w12.drew = w13 at HO_3 BK103 HB hHeld ⊢; refine pure_ (i := 0) (N := some 20) (v := ?_) (a' := ?_) #[y_,n_,n_,n_,n_,n_,n_,n_,n_,n_,n_,n_,n_,n_,n_,n_,n_,n_,n_,n_,n_,n_] rfl rfl (any_of HT_.out (by kernel_rfl)) (fun _ _ _ h => h) (Or.inl ⟨by rfl, ?_⟩) ?_ ?_
         rotate_left
         ·intro w'; go_simp; with_reducible rfl
         rotate_left
         ·simp only [Act.put, List.setIfInBounds_toArray, List.set_cons_zero, List.set_cons_succ, i64_w, i32_w]; rfl
         refine pure_ (i := 1) (N := some 21) (v := ?_) (a' := ?_) #[y_,y_,n_,n_,n_,n_,n_,n_,n_,n_,n_,n_,n_,n_,n_,n_,n_,n_,n_,n_,n_,n_] rfl rfl (any_of HT_.out (by kernel_rfl)) (fun _ _ _ h => h) (Or.inl ⟨by rfl, ?_⟩) ?_ ?_
         rotate_left
         ·intro w'; go_simp; with_reducible rfl
         rotate_left
         ·simp only [Act.put, List.setIfInBounds_toArray, List.set_cons_zero, List.set_cons_succ, i64_w, i32_w]; rfl
         refine pure_ (i := 2) (N := some 22) (v := ?_) (a' := ?_) #[y_,y_,y_,n_,n_,n_,n_,n_,n_,n_,n_,n_,n_,n_,n_,n_,n_,n_,n_,n_,n_,n_] rfl rfl (any_of HT_.out (by kernel_rfl)) (fun _ _ _ h => h) (Or.inl ⟨by rfl, ?_⟩) ?_ ?_
         rotate_left
         ·intro w'; go_simp; with_reducible rfl
         rotate_left
         ·simp only [Act.put, List.setIfInBounds_toArray, List.set_cons_zero, List.set_cons_succ, i64_w, i32_w]; rfl
         refine pure_ (i := 3) (N := some 23) (v := undef) (a' := ?_) #[y_,y_,y_,y_,n_,n_,n_,n_,n_,n_,n_,n_,n_,n_,n_,n_,n_,n_,n_,n_,n_,n_] rfl rfl (any_of HT_.out (by kernel_rfl)) (fun _ _ _ h => h) (Or.inr ⟨by rfl, rfl⟩) ?_ ?_
         rotate_left
         ·simp only [Act.put, List.setIfInBounds_toArray, List.set_cons_zero, List.set_cons_succ, i64_w, i32_w]; rfl
         refine pure_ (i := 4) (N := some 24) (v := undef) (a' := ?_) #[y_,y_,y_,y_,y_,n_,n_,n_,n_,n_,n_,n_,n_,n_,n_,n_,n_,n_,n_,n_,n_,n_] rfl rfl (any_of HT_.out (by kernel_rfl)) (fun _ _ _ h => h) (Or.inr ⟨by rfl, rfl⟩) ?_ ?_
         rotate_left
         ·simp only [Act.put, List.setIfInBounds_toArray, List.set_cons_zero, List.set_cons_succ, i64_w, i32_w]; rfl
         refine pure_ (i := 5) (N := some 25) (v := undef) (a' := ?_) #[y_,y_,y_,y_,y_,y_,n_,n_,n_,n_,n_,n_,n_,n_,n_,n_,n_,n_,n_,n_,n_,n_] rfl rfl (any_of HT_.out (by kernel_rfl)) (fun _ _ _ h => h) (Or.inr ⟨by rfl, rfl⟩) ?_ ?_
         rotate_left
         ·simp only [Act.put, List.setIfInBounds_toArray, List.set_cons_zero, List.set_cons_succ, i64_w, i32_w]; rfl
         refine pure_ (i := 6) (N := some 26) (v := ?_) (a' := ?_) #[y_,y_,y_,y_,y_,y_,y_,n_,n_,n_,n_,n_,n_,n_,n_,n_,n_,n_,n_,n_,n_,n_] rfl rfl (any_of HT_.out (by kernel_rfl)) (fun _ _ _ h => h) (Or.inl ⟨by rfl, ?_⟩) ?_ ?_
         rotate_left
         ·intro w'; go_simp; with_reducible rfl
         rotate_left
         ·simp only [Act.put, List.setIfInBounds_toArray, List.set_cons_zero, List.set_cons_succ, i64_w, i32_w]; rfl
         refine pure_ (i := 7) (N := some 27) (v := ?_) (a' := ?_) #[y_,y_,y_,y_,y_,y_,y_,y_,n_,n_,n_,n_,n_,n_,n_,n_,n_,n_,n_,n_,n_,n_] rfl rfl (any_of HT_.out (by kernel_rfl)) (fun _ _ _ h => h) (Or.inl ⟨by rfl, ?_⟩) ?_ ?_
         rotate_left
         ·intro w'; go_simp; with_reducible rfl
         rotate_left
         ·simp only [Act.put, List.setIfInBounds_toArray, List.set_cons_zero, List.set_cons_succ, i64_w, i32_w]; rfl
         refine pure_ (i := 8) (N := some 28) (v := undef) (a' := ?_) #[y_,y_,y_,y_,y_,y_,y_,y_,y_,n_,n_,n_,n_,n_,n_,n_,n_,n_,n_,n_,n_,n_] rfl rfl (any_of HT_.out (by kernel_rfl)) (fun _ _ _ h => h) (Or.inr ⟨by rfl, rfl⟩) ?_ ?_
         rotate_left
         ·simp only [Act.put, List.setIfInBounds_toArray, List.set_cons_zero, List.set_cons_succ, i64_w, i32_w]; rfl
         refine pure_ (i := 9) (N := some 29) (v := undef) (a' := ?_) #[y_,y_,y_,y_,y_,y_,y_,y_,y_,y_,n_,n_,n_,n_,n_,n_,n_,n_,n_,n_,n_,n_] rfl rfl (any_of HT_.out (by kernel_rfl)) (fun _ _ _ h => h) (Or.inr ⟨by rfl, rfl⟩) ?_ ?_
         rotate_left
         ·simp only [Act.put, List.setIfInBounds_toArray, List.set_cons_zero, List.set_cons_succ, i64_w, i32_w]; rfl
         refine pure_ (i := 10) (N := some 30) (v := undef) (a' := ?_) #[y_,y_,y_,y_,y_,y_,y_,y_,y_,y_,y_,n_,n_,n_,n_,n_,n_,n_,n_,n_,n_,n_] rfl rfl (any_of HT_.out (by kernel_rfl)) (fun _ _ _ h => h) (Or.inr ⟨by rfl, rfl⟩) ?_ ?_
         rotate_left
         ·simp only [Act.put, List.setIfInBounds_toArray, List.set_cons_zero, List.set_cons_succ, i64_w, i32_w]; rfl
         refine pure_ (i := 11) (N := some 31) (v := undef) (a' := ?_) #[y_,y_,y_,y_,y_,y_,y_,y_,y_,y_,y_,y_,n_,n_,n_,n_,n_,n_,n_,n_,n_,n_] rfl rfl (any_of HT_.out (by kernel_rfl)) (fun _ _ _ h => h) (Or.inr ⟨by rfl, rfl⟩) ?_ ?_
         rotate_left
         ·simp only [Act.put, List.setIfInBounds_toArray, List.set_cons_zero, List.set_cons_succ, i64_w, i32_w]; rfl
         refine pure_ (i := 12) (N := some 32) (v := undef) (a' := ?_) #[y_,y_,y_,y_,y_,y_,y_,y_,y_,y_,y_,y_,y_,n_,n_,n_,n_,n_,n_,n_,n_,n_] rfl rfl (any_of HT_.out (by kernel_rfl)) (fun _ _ _ h => h) (Or.inr ⟨by rfl, rfl⟩) ?_ ?_
         rotate_left
         ·simp only [Act.put, List.setIfInBounds_toArray, List.set_cons_zero, List.set_cons_succ, i64_w, i32_w]; rfl
         refine pure_ (i := 13) (N := some 33) (v := undef) (a' := ?_) #[y_,y_,y_,y_,y_,y_,y_,y_,y_,y_,y_,y_,y_,y_,n_,n_,n_,n_,n_,n_,n_,n_] rfl rfl (any_of HT_.out (by kernel_rfl)) (fun _ _ _ h => h) (Or.inr ⟨by rfl, rfl⟩) ?_ ?_
         rotate_left
         ·simp only [Act.put, List.setIfInBounds_toArray, List.set_cons_zero, List.set_cons_succ, i64_w, i32_w]; rfl
         refine pure_ (i := 14) (N := some 34) (v := undef) (a' := ?_) #[y_,y_,y_,y_,y_,y_,y_,y_,y_,y_,y_,y_,y_,y_,y_,n_,n_,n_,n_,n_,n_,n_] rfl rfl (any_of HT_.out (by kernel_rfl)) (fun _ _ _ h => h) (Or.inr ⟨by rfl, rfl⟩) ?_ ?_
         rotate_left
         ·simp only [Act.put, List.setIfInBounds_toArray, List.set_cons_zero, List.set_cons_succ, i64_w, i32_w]; rfl
         refine pure_ (i := 15) (N := some 35) (v := undef) (a' := ?_) #[y_,y_,y_,y_,y_,y_,y_,y_,y_,y_,y_,y_,y_,y_,y_,y_,n_,n_,n_,n_,n_,n_] rfl rfl (any_of HT_.out (by kernel_rfl)) (fun _ _ _ h => h) (Or.inr ⟨by rfl, rfl⟩) ?_ ?_
         rotate_left
         ·simp only [Act.put, List.setIfInBounds_toArray, List.set_cons_zero, List.set_cons_succ, i64_w, i32_w]; rfl
         refine pure_ (i := 16) (N := some 36) (v := undef) (a' := ?_) #[y_,y_,y_,y_,y_,y_,y_,y_,y_,y_,y_,y_,y_,y_,y_,y_,y_,n_,n_,n_,n_,n_] rfl rfl (any_of HT_.out (by kernel_rfl)) (fun _ _ _ h => h) (Or.inr ⟨by rfl, rfl⟩) ?_ ?_
         rotate_left
         ·simp only [Act.put, List.setIfInBounds_toArray, List.set_cons_zero, List.set_cons_succ, i64_w, i32_w]; rfl
         refine pure_ (i := 17) (N := some 37) (v := undef) (a' := ?_) #[y_,y_,y_,y_,y_,y_,y_,y_,y_,y_,y_,y_,y_,y_,y_,y_,y_,y_,n_,n_,n_,n_] rfl rfl (any_of HT_.out (by kernel_rfl)) (fun _ _ _ h => h) (Or.inr ⟨by rfl, rfl⟩) ?_ ?_
         rotate_left
         ·simp only [Act.put, List.setIfInBounds_toArray, List.set_cons_zero, List.set_cons_succ, i64_w, i32_w]; rfl
         refine pure_ (i := 18) (N := some 38) (v := undef) (a' := ?_) #[y_,y_,y_,y_,y_,y_,y_,y_,y_,y_,y_,y_,y_,y_,y_,y_,y_,y_,y_,n_,n_,n_] rfl rfl (any_of HT_.out (by kernel_rfl)) (fun _ _ _ h => h) (Or.inr ⟨by rfl, rfl⟩) ?_ ?_
         rotate_left
         ·simp only [Act.put, List.setIfInBounds_toArray, List.set_cons_zero, List.set_cons_succ, i64_w, i32_w]; rfl
         refine pure_ (i := 19) (N := some 39) (v := undef) (a' := ?_) #[y_,y_,y_,y_,y_,y_,y_,y_,y_,y_,y_,y_,y_,y_,y_,y_,y_,y_,y_,y_,n_,n_] rfl rfl (any_of HT_.out (by kernel_rfl)) (fun _ _ _ h => h) (Or.inr ⟨by rfl, rfl⟩) ?_ ?_
         rotate_left
         ·simp only [Act.put, List.setIfInBounds_toArray, List.set_cons_zero, List.set_cons_succ, i64_w, i32_w]; rfl
         refine pure_ (i := 20) (N := some 40) (v := undef) (a' := ?_) #[y_,y_,y_,y_,y_,y_,y_,y_,y_,y_,y_,y_,y_,y_,y_,y_,y_,y_,y_,y_,y_,n_] rfl rfl (any_of HT_.out (by kernel_rfl)) (fun _ _ _ h => h) (Or.inr ⟨by rfl, rfl⟩) ?_ ?_
         rotate_left
         ·simp only [Act.put, List.setIfInBounds_toArray, List.set_cons_zero, List.set_cons_succ, i64_w, i32_w]; rfl
         refine pure_ (i := 21) (N := some 41) (v := ?_) (a' := ?_) #[y_,y_,y_,y_,y_,y_,y_,y_,y_,y_,y_,y_,y_,y_,y_,y_,y_,y_,y_,y_,y_,y_] rfl rfl (any_of HT_.out (by kernel_rfl)) (fun _ _ _ h => h) (Or.inl ⟨by rfl, ?_⟩) ?_ ?_
         rotate_left
         ·intro w'; go_simp; with_reducible rfl
         rotate_left
         ·simp only [Act.put, List.setIfInBounds_toArray, List.set_cons_zero, List.set_cons_succ, i64_w, i32_w]; rfl
         refine done_ (done_of HT_.out (by kernel_rfl)) ?_; have hcz14_0 : w13.cell? ⟨gb103, 0, none⟩ = some (.int .i64 ((rd_T38 l0 x15_1).f0)) := (blk_cell BK103.out 0).trans rfl; have hcz14_1 : w13.cell? ⟨gb103, 1, none⟩ = some (.int .i64 ((rd_T38 l0 x15_1).f1)) := (blk_cell BK103.out 1).trans rfl; have hfz14_0 := blk_frozen BK103.out 0; have hfz14_1 := blk_frozen BK103.out 1
         try go_wp2_with (first | ((with_reducible refine gate_builtin (b := .append) (xs := #[.tmp 42, .tmp 44]) rfl ?_); at_builtin; refine Kd.R_append k38 (w0 := w) w.heap.size rfl (.tmp 42) (.tmp 44) 24 38 (.agg #[(.int .i64 0), (.int .i64 0)]) 16 rfl Try.underlying24 info38 rfl (by decide) (by omega) u3 x3_1 (⟨(rd_T38 l0 x15_1).f0, (rd_T38 l0 x15_1).f1⟩ : S38) [.int .i64 ((rd_T38 l0 x15_1).f0), .int .i64 ((rd_T38 l0 x15_1).f1)] (fun k_ => k_ ≠ gb103) (fun _ => False) rfl rfl ?aP (fun _ hk => hk.elim) ?aF ?aO ?aB ?aS ?aL ?_; (case aP => exact k38_mkM _ _ _ (⟨(rd_T38 l0 x15_1).f0, (rd_T38 l0 x15_1).f1⟩ : S38)); (case aB => exact (by repeat (first | (with_reducible first | exact HB.out | apply below_alloc | apply pw_below_drewN | apply below_drew1 | refine below_set ?_ GE103.out) | exact HB.out))); (case aF => exact (fun k_ hk => Kd.freshB (g := gb103) (o := .cells #[.int .i64 ((rd_T38 l0 x15_1).f0), .int .i64 ((rd_T38 l0 x15_1).f1)] 38 (0, 0)) (by (with_reducible repeat (first | refine blk_drewN ?_ _ | refine blk_drew ?_ | refine blk_alloc ?_ _)); exact BK103.out) k_ hk)); (case aO => exact (by (with_reducible repeat (first | apply Kd.R_alloc | apply Kd.R_drewN | apply Kd.R_drew)); exact HO_3.out)); (case aS => exact (below_size (by repeat (first | (with_reducible first | exact HB.out | apply below_alloc | apply pw_below_drewN | apply below_drew1 | refine below_set ?_ GE103.out) | exact HB.out)))); (case aL => have := LMc9.out; omega); intro v105 w15 ho hb hg hat; rw [← Ny104.out] at ho; have n0_ := Aside0.mk (blk_grown (g := gb103) (o := .cells #[.int .i64 ((rd_T38 l0 x15_1).f0), .int .i64 ((rd_T38 l0 x15_1).f1)] 38 (0, 0)) (by (with_reducible repeat (first | refine blk_drewN ?_ _ | refine blk_drew ?_ | refine blk_alloc ?_ _)); exact BK103.out) hg (Kd.R_away HO_3.out (fun _ hk => hk))); have n1_ := Aside0.mk (hb); have n2_ := Aside0.mk (ho); clear BK103; clear HB; clear HO_3; have BK103 := n0_; have HB := n1_; have HO106 := n2_; clear n0_ n1_ n2_; clear ho hb hg hat))
         go_roundg k1
         case measure => have := HK1.out; omega
         case rel => exact ⟨(y104), (wrap64 (x15_1 + 1)), (by first | rfl | (simp; done) | (simp [*]; done)), H', ⟨by have := HK1.out; omega⟩, ⟨by (with_reducible repeat (first | apply Kd.R_alloc | apply Kd.R_drewN | apply Kd.R_drew)); exact Kd.R_mono HO106.out (fun _ hk => trivial)⟩, ⟨by repeat (first | (with_reducible first | exact HB.out | apply below_alloc | apply pw_below_drewN | apply below_drew1 | refine below_set ?_ GE103.out) | exact HB.out)⟩⟩
        ·rw [if_neg c9] at H; exact absurd H (by simp)
       ·rw [if_neg c8] at H
        have c8b0 : (x15_1 == 0) = false := beq_eq_false_iff_ne.mpr c8; have c8b1 : (x15_1 != 0) = true := bne_iff_ne.mpr c8
        by_cases c16 : x15_1 = (wrap64 ((l0.length : Int) - 1))
        ·rw [if_pos c16] at H
         have c16b0 : (x15_1 == (wrap64 ((l0.length : Int) - 1))) = true := beq_iff_eq.mpr c16; have c16b1 : (x15_1 != (wrap64 ((l0.length : Int) - 1))) = false := bne_eq_false_iff_eq.mpr c16; clear c16
         by_cases c17 : x3_1.length < 8796093022208
         ·rw [if_pos c17] at H
          have LMc17 := Aside0.mk c17; clear c17; obtain ⟨y107, hy107⟩ : ∃ y_ : List (S38), y_ = (x3_1 ++ [(⟨(rd_T38 l0 x15_1).f0, (rd_T38 l0 x15_1).f1⟩ : S38)]) := ⟨_, rfl⟩
          replace H : (impl_CodeTurns.l0 k1 l0 y107 (wrap64 ((l0.length : Int) - 1)) l0 (l0.length : Int) (wrap64 (x15_1 + 1))) = some r := by first | (rw [hy107]; with_reducible exact H) | (have H2_ := (Option.bind_some _ _).symm.trans H; rw [hy107]; with_reducible exact H2_) | (have H2_ := (Option.bind_some _ _).symm.trans H; with_reducible exact H2_) | with_reducible exact H | (rw [hy107]; exact H) | exact H
          have Ny107 := Aside0.mk hy107; clear hy107; have H' := Aside0.mk H; clear H; have p102 : 0 ≤ (x15_1 : Int) := of_decide_eq_true (by first | (with_reducible assumption) | assumption); have q102 : x15_1 < (l0.length : Int) := of_decide_eq_true (by first | (with_reducible assumption) | assumption); obtain ⟨ad102, e102, hx102_0, hx102_1⟩ := at_T38 HR0.out x15_1 p102 q102
          cases e102
          replace hx102_0 := (HB.out.cell (World.block_lt_of_cell? w _ hx102_0)).trans hx102_0; replace hx102_1 := (HB.out.cell (World.block_lt_of_cell? w _ hx102_1)).trans hx102_1; replace p102 := eq_true p102; replace q102 := eq_true q102
          try go_wp2_with (first | ((with_reducible refine gate_dst (N := 6) rfl ?_); refine box_event ?hg (N := 6) ?hd (cs := #[.int .i64 0, .int .i64 0]) (t := 38) ?hr ?_; (case hd => rfl); (case hg => rfl); (case hr => first | (go_simp; done) | (go_simp; rfl)); intro gb103 hg w18 hbox hb; have n0_ := Aside0.mk (Kd.R_below (Kd.R_elderB (by (with_reducible repeat (first | apply Kd.R_alloc | apply Kd.R_drewN | apply Kd.R_drew)); exact HO_3.out) gb103 (Nat.le_of_eq hg.symm)) hb); have n1_ := Aside0.mk (below_step (by repeat (first | (with_reducible first | exact HB.out | apply below_alloc | apply pw_below_drewN | apply below_drew1) | exact HB.out)) hb); have n2_ := Aside0.mk (hbox); have n3_ := Aside0.mk ((by rw [hg]; exact (below_size (by repeat (first | (with_reducible first | exact HB.out | apply below_alloc | apply pw_below_drewN | apply below_drew1) | exact HB.out))) : w.heap.size ≤ gb103)); have n4_ := Aside0.mk ((by rw [hg]; exact (below_size (by repeat (first | (with_reducible first | exact HB.out | apply below_alloc | apply pw_below_drewN | apply below_drew1) | exact HB.out))) : w.heap.size ≤ gb103)); clear HO_3; clear HB; have HO_3 := n0_; have HB := n1_; have BK103 := n2_; have GW103 := n3_; have GE103 := n4_; clear n0_ n1_ n2_ n3_ n4_; clear hb hbox hg; have hcz19_0 : w18.cell? ⟨gb103, 0, none⟩ = some (.int .i64 0) := (blk_cell BK103.out 0).trans rfl; have hcz19_1 : w18.cell? ⟨gb103, 1, none⟩ = some (.int .i64 0) := (blk_cell BK103.out 1).trans rfl; have hfz19_0 := blk_frozen BK103.out 0; have hfz19_1 := blk_frozen BK103.out 1))
          have n0_ : Aside0 (Kd.R k38 38 ((w18.setCell ⟨gb103, 0, none⟩ (.int .i64 ((rd_T38 l0 x15_1).f0))).setCell ⟨gb103, 1, none⟩ (.int .i64 ((rd_T38 l0 x15_1).f1))) w.heap.size (fun k_ => k_ ≠ gb103) u3 x3_1) := ⟨by (with_reducible repeat (first | apply Kd.R_alloc | apply Kd.R_drewN | apply Kd.R_drew)); exact Kd.R_mono (Kd.R_far (p := ⟨gb103, 1, none⟩) (Kd.R_far (p := ⟨gb103, 0, none⟩) (Kd.R_mono HO_3.out (fun k_ hk => (⟨hk, hk.2⟩ : _ ∧ k_ ≠ gb103))) (fun _ hk => hk.2) (.int .i64 ((rd_T38 l0 x15_1).f0))) (fun _ hk => hk.2) (.int .i64 ((rd_T38 l0 x15_1).f1))) (fun _ hk => hk.1.2)⟩; have n1_ : Aside0 (((w18.setCell ⟨gb103, 0, none⟩ (.int .i64 ((rd_T38 l0 x15_1).f0))).setCell ⟨gb103, 1, none⟩ (.int .i64 ((rd_T38 l0 x15_1).f1))).heap[gb103]? = some (.cells #[.int .i64 ((rd_T38 l0 x15_1).f0), .int .i64 ((rd_T38 l0 x15_1).f1)] 38 (0, 0))) := ⟨by (with_reducible repeat (first | refine blk_drewN ?_ _ | refine blk_drew ?_ | refine blk_alloc ?_ _)); refine blk_put (cs := #[.int .i64 ((rd_T38 l0 x15_1).f0), .int .i64 0]) ?_ 1 _ rfl; (with_reducible repeat (first | refine blk_drewN ?_ _ | refine blk_drew ?_ | refine blk_alloc ?_ _)); refine blk_put (cs := #[.int .i64 0, .int .i64 0]) ?_ 0 _ rfl; (with_reducible repeat (first | refine blk_drewN ?_ _ | refine blk_drew ?_ | refine blk_alloc ?_ _)); exact BK103.out⟩; have n2_ : Aside0 (Below w.heap.size w ((w18.setCell ⟨gb103, 0, none⟩ (.int .i64 ((rd_T38 l0 x15_1).f0))).setCell ⟨gb103, 1, none⟩ (.int .i64 ((rd_T38 l0 x15_1).f1)))) := ⟨by repeat (first | (with_reducible first | exact HB.out | apply below_alloc | apply pw_below_drewN | apply below_drew1 | refine below_set ?_ GE103.out) | exact HB.out)⟩; (try clear HO_3); (try clear BK103); (try clear HB); generalize ((w18.setCell ⟨gb103, 0, none⟩ (.int .i64 ((rd_T38 l0 x15_1).f0))).setCell ⟨gb103, 1, none⟩ (.int .i64 ((rd_T38 l0 x15_1).f1))) = w20 at n0_ n1_ n2_ ⊢; have HO_3 := n0_; have BK103 := n1_; have HB := n2_; clear n0_ n1_ n2_; have n0_ := Aside0.mk (Kd.R_drew HO_3.out); have n1_ := Aside0.mk (blk_drew BK103.out); have n2_ := Aside0.mk (below_drew1 HB.out); clear HO_3; clear BK103; clear HB; have HO_3 := n0_; have BK103 := n1_; have HB := n2_; clear n0_ n1_ n2_; refine start_ (n := 22) (S := fun w' => True) (ds := []) #[n_,n_,n_,n_,n_,n_,n_,n_,n_,n_,n_,n_,n_,n_,n_,n_,n_,n_,n_,n_,n_,n_] (by kernel_rfl) rfl rfl trivial (fun hHeld => ?_); refine with_tabW impl_CodeTurns.tab8 impl_CodeTurns.bits8 (fun HT_ HW_ => ?_); generalize w20.drew = w21 at HO_3 BK103 HB hHeld ⊢; refine pure_ (i := 0) (N := some 20) (v := ?_) (a' := ?_) #[y_,n_,n_,n_,n_,n_,n_,n_,n_,n_,n_,n_,n_,n_,n_,n_,n_,n_,n_,n_,n_,n_] rfl rfl (any_of HT_.out (by kernel_rfl)) (fun _ _ _ h => h) (Or.inl ⟨by rfl, ?_⟩) ?_ ?_
          rotate_left
          ·intro w'; go_simp; with_reducible rfl
          rotate_left
          ·simp only [Act.put, List.setIfInBounds_toArray, List.set_cons_zero, List.set_cons_succ, i64_w, i32_w]; rfl
          refine pure_ (i := 1) (N := some 21) (v := ?_) (a' := ?_) #[y_,y_,n_,n_,n_,n_,n_,n_,n_,n_,n_,n_,n_,n_,n_,n_,n_,n_,n_,n_,n_,n_] rfl rfl (any_of HT_.out (by kernel_rfl)) (fun _ _ _ h => h) (Or.inl ⟨by rfl, ?_⟩) ?_ ?_
          rotate_left
          ·intro w'; go_simp; with_reducible rfl
          rotate_left
          ·simp only [Act.put, List.setIfInBounds_toArray, List.set_cons_zero, List.set_cons_succ, i64_w, i32_w]; rfl
          refine pure_ (i := 2) (N := some 22) (v := ?_) (a' := ?_) #[y_,y_,y_,n_,n_,n_,n_,n_,n_,n_,n_,n_,n_,n_,n_,n_,n_,n_,n_,n_,n_,n_] rfl rfl (any_of HT_.out (by kernel_rfl)) (fun _ _ _ h => h) (Or.inl ⟨by rfl, ?_⟩) ?_ ?_
          rotate_left
          ·intro w'; go_simp; with_reducible rfl
          rotate_left
          ·simp only [Act.put, List.setIfInBounds_toArray, List.set_cons_zero, List.set_cons_succ, i64_w, i32_w]; rfl
          refine pure_ (i := 3) (N := some 23) (v := ?_) (a' := ?_) #[y_,y_,y_,y_,n_,n_,n_,n_,n_,n_,n_,n_,n_,n_,n_,n_,n_,n_,n_,n_,n_,n_] rfl rfl (any_of HT_.out (by kernel_rfl)) (fun _ _ _ h => h) (Or.inl ⟨by rfl, ?_⟩) ?_ ?_
          rotate_left
          ·intro w'; go_simp; with_reducible rfl
          rotate_left
          ·simp only [Act.put, List.setIfInBounds_toArray, List.set_cons_zero, List.set_cons_succ, i64_w, i32_w]; rfl
          refine pure_ (i := 4) (N := some 24) (v := ?_) (a' := ?_) #[y_,y_,y_,y_,y_,n_,n_,n_,n_,n_,n_,n_,n_,n_,n_,n_,n_,n_,n_,n_,n_,n_] rfl rfl (any_of HT_.out (by kernel_rfl)) (fun _ _ _ h => h) (Or.inl ⟨by rfl, ?_⟩) ?_ ?_
          rotate_left
          ·intro w'; go_simp; with_reducible rfl
          rotate_left
          ·simp only [Act.put, List.setIfInBounds_toArray, List.set_cons_zero, List.set_cons_succ, i64_w, i32_w]; rfl
          refine pure_ (i := 5) (N := some 25) (v := ?_) (a' := ?_) #[y_,y_,y_,y_,y_,y_,n_,n_,n_,n_,n_,n_,n_,n_,n_,n_,n_,n_,n_,n_,n_,n_] rfl rfl (any_of HT_.out (by kernel_rfl)) (fun _ _ _ h => h) (Or.inl ⟨by rfl, ?_⟩) ?_ ?_
          rotate_left
          ·intro w'; go_simp; with_reducible rfl
          rotate_left
          ·simp only [Act.put, List.setIfInBounds_toArray, List.set_cons_zero, List.set_cons_succ, i64_w, i32_w]; rfl
          refine pure_ (i := 6) (N := some 26) (v := ?_) (a' := ?_) #[y_,y_,y_,y_,y_,y_,y_,n_,n_,n_,n_,n_,n_,n_,n_,n_,n_,n_,n_,n_,n_,n_] rfl rfl (any_of HT_.out (by kernel_rfl)) (fun _ _ _ h => h) (Or.inl ⟨by rfl, ?_⟩) ?_ ?_
          rotate_left
          ·intro w'; go_simp; with_reducible rfl
          rotate_left
          ·simp only [Act.put, List.setIfInBounds_toArray, List.set_cons_zero, List.set_cons_succ, i64_w, i32_w]; rfl
          refine pure_ (i := 7) (N := some 27) (v := ?_) (a' := ?_) #[y_,y_,y_,y_,y_,y_,y_,y_,n_,n_,n_,n_,n_,n_,n_,n_,n_,n_,n_,n_,n_,n_] rfl rfl (any_of HT_.out (by kernel_rfl)) (fun _ _ _ h => h) (Or.inl ⟨by rfl, ?_⟩) ?_ ?_
          rotate_left
          ·intro w'; go_simp; with_reducible rfl
          rotate_left
          ·simp only [Act.put, List.setIfInBounds_toArray, List.set_cons_zero, List.set_cons_succ, i64_w, i32_w]; rfl
          refine pure_ (i := 8) (N := some 28) (v := undef) (a' := ?_) #[y_,y_,y_,y_,y_,y_,y_,y_,y_,n_,n_,n_,n_,n_,n_,n_,n_,n_,n_,n_,n_,n_] rfl rfl (any_of HT_.out (by kernel_rfl)) (fun _ _ _ h => h) (Or.inr ⟨by rfl, rfl⟩) ?_ ?_
          rotate_left
          ·simp only [Act.put, List.setIfInBounds_toArray, List.set_cons_zero, List.set_cons_succ, i64_w, i32_w]; rfl
          refine pure_ (i := 9) (N := some 29) (v := undef) (a' := ?_) #[y_,y_,y_,y_,y_,y_,y_,y_,y_,y_,n_,n_,n_,n_,n_,n_,n_,n_,n_,n_,n_,n_] rfl rfl (any_of HT_.out (by kernel_rfl)) (fun _ _ _ h => h) (Or.inr ⟨by rfl, rfl⟩) ?_ ?_
          rotate_left
          ·simp only [Act.put, List.setIfInBounds_toArray, List.set_cons_zero, List.set_cons_succ, i64_w, i32_w]; rfl
          refine pure_ (i := 10) (N := some 30) (v := undef) (a' := ?_) #[y_,y_,y_,y_,y_,y_,y_,y_,y_,y_,y_,n_,n_,n_,n_,n_,n_,n_,n_,n_,n_,n_] rfl rfl (any_of HT_.out (by kernel_rfl)) (fun _ _ _ h => h) (Or.inr ⟨by rfl, rfl⟩) ?_ ?_
          rotate_left
          ·simp only [Act.put, List.setIfInBounds_toArray, List.set_cons_zero, List.set_cons_succ, i64_w, i32_w]; rfl
          refine pure_ (i := 11) (N := some 31) (v := undef) (a' := ?_) #[y_,y_,y_,y_,y_,y_,y_,y_,y_,y_,y_,y_,n_,n_,n_,n_,n_,n_,n_,n_,n_,n_] rfl rfl (any_of HT_.out (by kernel_rfl)) (fun _ _ _ h => h) (Or.inr ⟨by rfl, rfl⟩) ?_ ?_
          rotate_left
          ·simp only [Act.put, List.setIfInBounds_toArray, List.set_cons_zero, List.set_cons_succ, i64_w, i32_w]; rfl
          refine pure_ (i := 12) (N := some 32) (v := undef) (a' := ?_) #[y_,y_,y_,y_,y_,y_,y_,y_,y_,y_,y_,y_,y_,n_,n_,n_,n_,n_,n_,n_,n_,n_] rfl rfl (any_of HT_.out (by kernel_rfl)) (fun _ _ _ h => h) (Or.inr ⟨by rfl, rfl⟩) ?_ ?_
          rotate_left
          ·simp only [Act.put, List.setIfInBounds_toArray, List.set_cons_zero, List.set_cons_succ, i64_w, i32_w]; rfl
          refine pure_ (i := 13) (N := some 33) (v := undef) (a' := ?_) #[y_,y_,y_,y_,y_,y_,y_,y_,y_,y_,y_,y_,y_,y_,n_,n_,n_,n_,n_,n_,n_,n_] rfl rfl (any_of HT_.out (by kernel_rfl)) (fun _ _ _ h => h) (Or.inr ⟨by rfl, rfl⟩) ?_ ?_
          rotate_left
          ·simp only [Act.put, List.setIfInBounds_toArray, List.set_cons_zero, List.set_cons_succ, i64_w, i32_w]; rfl
          refine pure_ (i := 14) (N := some 34) (v := undef) (a' := ?_) #[y_,y_,y_,y_,y_,y_,y_,y_,y_,y_,y_,y_,y_,y_,y_,n_,n_,n_,n_,n_,n_,n_] rfl rfl (any_of HT_.out (by kernel_rfl)) (fun _ _ _ h => h) (Or.inr ⟨by rfl, rfl⟩) ?_ ?_
          rotate_left
          ·simp only [Act.put, List.setIfInBounds_toArray, List.set_cons_zero, List.set_cons_succ, i64_w, i32_w]; rfl
          refine pure_ (i := 15) (N := some 35) (v := undef) (a' := ?_) #[y_,y_,y_,y_,y_,y_,y_,y_,y_,y_,y_,y_,y_,y_,y_,y_,n_,n_,n_,n_,n_,n_] rfl rfl (any_of HT_.out (by kernel_rfl)) (fun _ _ _ h => h) (Or.inr ⟨by rfl, rfl⟩) ?_ ?_
          rotate_left
          ·simp only [Act.put, List.setIfInBounds_toArray, List.set_cons_zero, List.set_cons_succ, i64_w, i32_w]; rfl
          refine pure_ (i := 16) (N := some 36) (v := undef) (a' := ?_) #[y_,y_,y_,y_,y_,y_,y_,y_,y_,y_,y_,y_,y_,y_,y_,y_,y_,n_,n_,n_,n_,n_] rfl rfl (any_of HT_.out (by kernel_rfl)) (fun _ _ _ h => h) (Or.inr ⟨by rfl, rfl⟩) ?_ ?_
          rotate_left
          ·simp only [Act.put, List.setIfInBounds_toArray, List.set_cons_zero, List.set_cons_succ, i64_w, i32_w]; rfl
          refine pure_ (i := 17) (N := some 37) (v := undef) (a' := ?_) #[y_,y_,y_,y_,y_,y_,y_,y_,y_,y_,y_,y_,y_,y_,y_,y_,y_,y_,n_,n_,n_,n_] rfl rfl (any_of HT_.out (by kernel_rfl)) (fun _ _ _ h => h) (Or.inr ⟨by rfl, rfl⟩) ?_ ?_
          rotate_left
          ·simp only [Act.put, List.setIfInBounds_toArray, List.set_cons_zero, List.set_cons_succ, i64_w, i32_w]; rfl
          refine pure_ (i := 18) (N := some 38) (v := undef) (a' := ?_) #[y_,y_,y_,y_,y_,y_,y_,y_,y_,y_,y_,y_,y_,y_,y_,y_,y_,y_,y_,n_,n_,n_] rfl rfl (any_of HT_.out (by kernel_rfl)) (fun _ _ _ h => h) (Or.inr ⟨by rfl, rfl⟩) ?_ ?_
          rotate_left
          ·simp only [Act.put, List.setIfInBounds_toArray, List.set_cons_zero, List.set_cons_succ, i64_w, i32_w]; rfl
          refine pure_ (i := 19) (N := some 39) (v := undef) (a' := ?_) #[y_,y_,y_,y_,y_,y_,y_,y_,y_,y_,y_,y_,y_,y_,y_,y_,y_,y_,y_,y_,n_,n_] rfl rfl (any_of HT_.out (by kernel_rfl)) (fun _ _ _ h => h) (Or.inr ⟨by rfl, rfl⟩) ?_ ?_
          rotate_left
          ·simp only [Act.put, List.setIfInBounds_toArray, List.set_cons_zero, List.set_cons_succ, i64_w, i32_w]; rfl
          refine pure_ (i := 20) (N := some 40) (v := undef) (a' := ?_) #[y_,y_,y_,y_,y_,y_,y_,y_,y_,y_,y_,y_,y_,y_,y_,y_,y_,y_,y_,y_,y_,n_] rfl rfl (any_of HT_.out (by kernel_rfl)) (fun _ _ _ h => h) (Or.inr ⟨by rfl, rfl⟩) ?_ ?_
          rotate_left
          ·simp only [Act.put, List.setIfInBounds_toArray, List.set_cons_zero, List.set_cons_succ, i64_w, i32_w]; rfl
          refine pure_ (i := 21) (N := some 41) (v := ?_) (a' := ?_) #[y_,y_,y_,y_,y_,y_,y_,y_,y_,y_,y_,y_,y_,y_,y_,y_,y_,y_,y_,y_,y_,y_] rfl rfl (any_of HT_.out (by kernel_rfl)) (fun _ _ _ h => h) (Or.inl ⟨by rfl, ?_⟩) ?_ ?_
          rotate_left
          ·intro w'; go_simp; with_reducible rfl
          rotate_left
          ·simp only [Act.put, List.setIfInBounds_toArray, List.set_cons_zero, List.set_cons_succ, i64_w, i32_w]; rfl
          refine done_ (done_of HT_.out (by kernel_rfl)) ?_; have hcz22_0 : w21.cell? ⟨gb103, 0, none⟩ = some (.int .i64 ((rd_T38 l0 x15_1).f0)) := (blk_cell BK103.out 0).trans rfl; have hcz22_1 : w21.cell? ⟨gb103, 1, none⟩ = some (.int .i64 ((rd_T38 l0 x15_1).f1)) := (blk_cell BK103.out 1).trans rfl; have hfz22_0 := blk_frozen BK103.out 0; have hfz22_1 := blk_frozen BK103.out 1
          try go_wp2_with (first | ((with_reducible refine gate_builtin (b := .append) (xs := #[.tmp 42, .tmp 44]) rfl ?_); at_builtin; refine Kd.R_append k38 (w0 := w) w.heap.size rfl (.tmp 42) (.tmp 44) 24 38 (.agg #[(.int .i64 0), (.int .i64 0)]) 16 rfl Try.underlying24 info38 rfl (by decide) (by omega) u3 x3_1 (⟨(rd_T38 l0 x15_1).f0, (rd_T38 l0 x15_1).f1⟩ : S38) [.int .i64 ((rd_T38 l0 x15_1).f0), .int .i64 ((rd_T38 l0 x15_1).f1)] (fun k_ => k_ ≠ gb103) (fun _ => False) rfl rfl ?aP (fun _ hk => hk.elim) ?aF ?aO ?aB ?aS ?aL ?_; (case aP => exact k38_mkM _ _ _ (⟨(rd_T38 l0 x15_1).f0, (rd_T38 l0 x15_1).f1⟩ : S38)); (case aB => exact (by repeat (first | (with_reducible first | exact HB.out | apply below_alloc | apply pw_below_drewN | apply below_drew1 | refine below_set ?_ GE103.out) | exact HB.out))); (case aF => exact (fun k_ hk => Kd.freshB (g := gb103) (o := .cells #[.int .i64 ((rd_T38 l0 x15_1).f0), .int .i64 ((rd_T38 l0 x15_1).f1)] 38 (0, 0)) (by (with_reducible repeat (first | refine blk_drewN ?_ _ | refine blk_drew ?_ | refine blk_alloc ?_ _)); exact BK103.out) k_ hk)); (case aO => exact (by (with_reducible repeat (first | apply Kd.R_alloc | apply Kd.R_drewN | apply Kd.R_drew)); exact HO_3.out)); (case aS => exact (below_size (by repeat (first | (with_reducible first | exact HB.out | apply below_alloc | apply pw_below_drewN | apply below_drew1 | refine below_set ?_ GE103.out) | exact HB.out)))); (case aL => have := LMc17.out; omega); intro v108 w23 ho hb hg hat; rw [← Ny107.out] at ho; have n0_ := Aside0.mk (blk_grown (g := gb103) (o := .cells #[.int .i64 ((rd_T38 l0 x15_1).f0), .int .i64 ((rd_T38 l0 x15_1).f1)] 38 (0, 0)) (by (with_reducible repeat (first | refine blk_drewN ?_ _ | refine blk_drew ?_ | refine blk_alloc ?_ _)); exact BK103.out) hg (Kd.R_away HO_3.out (fun _ hk => hk))); have n1_ := Aside0.mk (hb); have n2_ := Aside0.mk (ho); clear BK103; clear HB; clear HO_3; have BK103 := n0_; have HB := n1_; have HO109 := n2_; clear n0_ n1_ n2_; clear ho hb hg hat))
          go_roundg k1
          case measure => have := HK1.out; omega
          case rel => exact ⟨(y107), (wrap64 (x15_1 + 1)), (by first | rfl | (simp; done) | (simp [*]; done)), H', ⟨by have := HK1.out; omega⟩, ⟨by (with_reducible repeat (first | apply Kd.R_alloc | apply Kd.R_drewN | apply Kd.R_drew)); exact Kd.R_mono HO109.out (fun _ hk => trivial)⟩, ⟨by repeat (first | (with_reducible first | exact HB.out | apply below_alloc | apply pw_below_drewN | apply below_drew1 | refine below_set ?_ GE103.out) | exact HB.out)⟩⟩
         ·rw [if_neg c17] at H; exact absurd H (by simp)
        ·rw [if_neg c16] at H
         have c16b0 : (x15_1 == (wrap64 ((l0.length : Int) - 1))) = false := beq_eq_false_iff_ne.mpr c16; have c16b1 : (x15_1 != (wrap64 ((l0.length : Int) - 1))) = true := bne_iff_ne.mpr c16; obtain ⟨ji24, hji24⟩ : ∃ j_ : Int, (wrap64 (x15_1 - 1)) = j_ := ⟨_, rfl⟩
         replace H : (if 0 ≤ (ji24) then (if (ji24) < (l0.length : Int) then (if 0 ≤ (wrap64 (x15_1 + 1)) then (if (wrap64 (x15_1 + 1)) < (l0.length : Int) then ((impl_goesOn.f ((rd_T38 l0 (ji24)).f0) ((rd_T38 l0 (ji24)).f1) ((rd_T38 l0 x15_1).f0) ((rd_T38 l0 x15_1).f1) ((rd_T38 l0 (wrap64 (x15_1 + 1))).f0) ((rd_T38 l0 (wrap64 (x15_1 + 1))).f1)).bind fun t112 => (if t112 = true then (impl_CodeTurns.l0 k1 l0 x3_1 (wrap64 ((l0.length : Int) - 1)) l0 (l0.length : Int) (wrap64 (x15_1 + 1))) else (if x3_1.length < 8796093022208 then (impl_CodeTurns.l0 k1 l0 (x3_1 ++ [(⟨(rd_T38 l0 x15_1).f0, (rd_T38 l0 x15_1).f1⟩ : S38)]) (wrap64 ((l0.length : Int) - 1)) l0 (l0.length : Int) (wrap64 (x15_1 + 1))) else (none)))) else (none)) else (none)) else (none)) else (none)) = some r := by first | (rw [hji24] at H; exact H) | (simp only [hji24] at H ⊢; exact H)
         have hji24w : (IntKind.i64.wrap (x15_1 - 1)) = ji24 := (i64_w _).trans hji24
         by_cases c25 : 0 ≤ (ji24)
         ·rw [if_pos c25] at H
          have c25b0 : decide (0 ≤ (ji24)) = true := decide_eq_true c25; clear c25
          by_cases c26 : (ji24) < (l0.length : Int)
          ·rw [if_pos c26] at H
           have c26b0 : decide ((ji24) < (l0.length : Int)) = true := decide_eq_true c26; clear c26; obtain ⟨ji27, hji27⟩ : ∃ j_ : Int, (wrap64 (x15_1 + 1)) = j_ := ⟨_, rfl⟩
           replace H : (if 0 ≤ (ji27) then (if (ji27) < (l0.length : Int) then ((impl_goesOn.f ((rd_T38 l0 (ji24)).f0) ((rd_T38 l0 (ji24)).f1) ((rd_T38 l0 x15_1).f0) ((rd_T38 l0 x15_1).f1) ((rd_T38 l0 (ji27)).f0) ((rd_T38 l0 (ji27)).f1)).bind fun t112 => (if t112 = true then (impl_CodeTurns.l0 k1 l0 x3_1 (wrap64 ((l0.length : Int) - 1)) l0 (l0.length : Int) ji27) else (if x3_1.length < 8796093022208 then (impl_CodeTurns.l0 k1 l0 (x3_1 ++ [(⟨(rd_T38 l0 x15_1).f0, (rd_T38 l0 x15_1).f1⟩ : S38)]) (wrap64 ((l0.length : Int) - 1)) l0 (l0.length : Int) ji27) else (none)))) else (none)) else (none)) = some r := by first | (rw [hji27] at H; exact H) | (simp only [hji27] at H ⊢; exact H)
           have hji27w : (IntKind.i64.wrap (x15_1 + 1)) = ji27 := (i64_w _).trans hji27
           by_cases c28 : 0 ≤ (ji27)
           ·rw [if_pos c28] at H
            have c28b0 : decide (0 ≤ (ji27)) = true := decide_eq_true c28; clear c28
            by_cases c29 : (ji27) < (l0.length : Int)
            ·rw [if_pos c29] at H
             have c29b0 : decide ((ji27) < (l0.length : Int)) = true := decide_eq_true c29; clear c29; replace H := Option.bind_eq_some_iff.mp H; obtain ⟨t112, A300, H⟩ := H; replace H : (if t112 = true then (impl_CodeTurns.l0 k1 l0 x3_1 (wrap64 ((l0.length : Int) - 1)) l0 (l0.length : Int) ji27) else (if x3_1.length < 8796093022208 then (impl_CodeTurns.l0 k1 l0 (x3_1 ++ [(⟨(rd_T38 l0 x15_1).f0, (rd_T38 l0 x15_1).f1⟩ : S38)]) (wrap64 ((l0.length : Int) - 1)) l0 (l0.length : Int) ji27) else (none))) = some r := H; have A30 := Aside0.mk A300; clear A300
             by_cases c31 : t112 = true
             ·subst c31
              have H1 : (impl_CodeTurns.l0 k1 l0 x3_1 (wrap64 ((l0.length : Int) - 1)) l0 (l0.length : Int) ji27) = some r := by rw [if_pos rfl] at H; exact H
              clear H; have H := H1; clear H1; have H' := Aside0.mk H; clear H; have p102 : 0 ≤ (x15_1 : Int) := of_decide_eq_true (by first | (with_reducible assumption) | assumption); have q102 : x15_1 < (l0.length : Int) := of_decide_eq_true (by first | (with_reducible assumption) | assumption); obtain ⟨ad102, e102, hx102_0, hx102_1⟩ := at_T38 HR0.out x15_1 p102 q102
              cases e102
              replace hx102_0 := (HB.out.cell (World.block_lt_of_cell? w _ hx102_0)).trans hx102_0; replace hx102_1 := (HB.out.cell (World.block_lt_of_cell? w _ hx102_1)).trans hx102_1; replace p102 := eq_true p102; replace q102 := eq_true q102
              try go_wp2_with (first | ((with_reducible refine gate_dst (N := 6) rfl ?_); refine box_event ?hg (N := 6) ?hd (cs := #[.int .i64 0, .int .i64 0]) (t := 38) ?hr ?_; (case hd => rfl); (case hg => rfl); (case hr => first | (go_simp; done) | (go_simp; rfl)); intro gb103 hg w32 hbox hb; have n0_ := Aside0.mk (Kd.R_below (Kd.R_elderB (by (with_reducible repeat (first | apply Kd.R_alloc | apply Kd.R_drewN | apply Kd.R_drew)); exact HO_3.out) gb103 (Nat.le_of_eq hg.symm)) hb); have n1_ := Aside0.mk (below_step (by repeat (first | (with_reducible first | exact HB.out | apply below_alloc | apply pw_below_drewN | apply below_drew1) | exact HB.out)) hb); have n2_ := Aside0.mk (hbox); have n3_ := Aside0.mk ((by rw [hg]; exact (below_size (by repeat (first | (with_reducible first | exact HB.out | apply below_alloc | apply pw_below_drewN | apply below_drew1) | exact HB.out))) : w.heap.size ≤ gb103)); have n4_ := Aside0.mk ((by rw [hg]; exact (below_size (by repeat (first | (with_reducible first | exact HB.out | apply below_alloc | apply pw_below_drewN | apply below_drew1) | exact HB.out))) : w.heap.size ≤ gb103)); clear HO_3; clear HB; have HO_3 := n0_; have HB := n1_; have BK103 := n2_; have GW103 := n3_; have GE103 := n4_; clear n0_ n1_ n2_ n3_ n4_; clear hb hbox hg; have hcz33_0 : w32.cell? ⟨gb103, 0, none⟩ = some (.int .i64 0) := (blk_cell BK103.out 0).trans rfl; have hcz33_1 : w32.cell? ⟨gb103, 1, none⟩ = some (.int .i64 0) := (blk_cell BK103.out 1).trans rfl; have hfz33_0 := blk_frozen BK103.out 0; have hfz33_1 := blk_frozen BK103.out 1))
              have n0_ : Aside0 (Kd.R k38 38 ((w32.setCell ⟨gb103, 0, none⟩ (.int .i64 ((rd_T38 l0 x15_1).f0))).setCell ⟨gb103, 1, none⟩ (.int .i64 ((rd_T38 l0 x15_1).f1))) w.heap.size (fun k_ => k_ ≠ gb103) u3 x3_1) := ⟨by (with_reducible repeat (first | apply Kd.R_alloc | apply Kd.R_drewN | apply Kd.R_drew)); exact Kd.R_mono (Kd.R_far (p := ⟨gb103, 1, none⟩) (Kd.R_far (p := ⟨gb103, 0, none⟩) (Kd.R_mono HO_3.out (fun k_ hk => (⟨hk, hk.2⟩ : _ ∧ k_ ≠ gb103))) (fun _ hk => hk.2) (.int .i64 ((rd_T38 l0 x15_1).f0))) (fun _ hk => hk.2) (.int .i64 ((rd_T38 l0 x15_1).f1))) (fun _ hk => hk.1.2)⟩; have n1_ : Aside0 (((w32.setCell ⟨gb103, 0, none⟩ (.int .i64 ((rd_T38 l0 x15_1).f0))).setCell ⟨gb103, 1, none⟩ (.int .i64 ((rd_T38 l0 x15_1).f1))).heap[gb103]? = some (.cells #[.int .i64 ((rd_T38 l0 x15_1).f0), .int .i64 ((rd_T38 l0 x15_1).f1)] 38 (0, 0))) := ⟨by (with_reducible repeat (first | refine blk_drewN ?_ _ | refine blk_drew ?_ | refine blk_alloc ?_ _)); refine blk_put (cs := #[.int .i64 ((rd_T38 l0 x15_1).f0), .int .i64 0]) ?_ 1 _ rfl; (with_reducible repeat (first | refine blk_drewN ?_ _ | refine blk_drew ?_ | refine blk_alloc ?_ _)); refine blk_put (cs := #[.int .i64 0, .int .i64 0]) ?_ 0 _ rfl; (with_reducible repeat (first | refine blk_drewN ?_ _ | refine blk_drew ?_ | refine blk_alloc ?_ _)); exact BK103.out⟩; have n2_ : Aside0 (Below w.heap.size w ((w32.setCell ⟨gb103, 0, none⟩ (.int .i64 ((rd_T38 l0 x15_1).f0))).setCell ⟨gb103, 1, none⟩ (.int .i64 ((rd_T38 l0 x15_1).f1)))) := ⟨by repeat (first | (with_reducible first | exact HB.out | apply below_alloc | apply pw_below_drewN | apply below_drew1 | refine below_set ?_ GE103.out) | exact HB.out)⟩; (try clear HO_3); (try clear BK103); (try clear HB); generalize ((w32.setCell ⟨gb103, 0, none⟩ (.int .i64 ((rd_T38 l0 x15_1).f0))).setCell ⟨gb103, 1, none⟩ (.int .i64 ((rd_T38 l0 x15_1).f1))) = w34 at n0_ n1_ n2_ ⊢; have HO_3 := n0_; have BK103 := n1_; have HB := n2_; clear n0_ n1_ n2_; have n0_ := Aside0.mk (Kd.R_drew HO_3.out); have n1_ := Aside0.mk (blk_drew BK103.out); have n2_ := Aside0.mk (below_drew1 HB.out); clear HO_3; clear BK103; clear HB; have HO_3 := n0_; have BK103 := n1_; have HB := n2_; clear n0_ n1_ n2_; have p110 : 0 ≤ ((ji24) : Int) := of_decide_eq_true (by first | (with_reducible assumption) | assumption); have q110 : (ji24) < (l0.length : Int) := of_decide_eq_true (by first | (with_reducible assumption) | assumption); obtain ⟨ad110, e110, hx110_0, hx110_1⟩ := at_T38 HR0.out (ji24) p110 q110; have hw110_1 := hx110_1; have hw110_0 := hx110_0; obtain rfl : ad102 = ad110 := (by injection e110); replace hx110_0 := (HB.out.cell (World.block_lt_of_cell? w _ hx110_0)).trans hx110_0; replace hx110_1 := (HB.out.cell (World.block_lt_of_cell? w _ hx110_1)).trans hx110_1; replace p110 := eq_true p110; replace q110 := eq_true q110; have p111 : 0 ≤ ((ji27) : Int) := of_decide_eq_true (by first | (with_reducible assumption) | assumption); have q111 : (ji27) < (l0.length : Int) := of_decide_eq_true (by first | (with_reducible assumption) | assumption); obtain ⟨ad111, e111, hx111_0, hx111_1⟩ := at_T38 HR0.out (ji27) p111 q111; have hw111_1 := hx111_1; have hw111_0 := hx111_0; obtain rfl : ad102 = ad111 := (by injection e111); replace hx111_0 := (HB.out.cell (World.block_lt_of_cell? w _ hx111_0)).trans hx111_0; replace hx111_1 := (HB.out.cell (World.block_lt_of_cell? w _ hx111_1)).trans hx111_1; replace p111 := eq_true p111; replace q111 := eq_true q111; refine start_ (n := 22) (S := fun w' => w'.cell? ⟨gb103, 0, none⟩ = some (.int .i64 ((rd_T38 l0 x15_1).f0)) ∧ w'.cell? ⟨gb103, 1, none⟩ = some (.int .i64 ((rd_T38 l0 x15_1).f1)) ∧ w'.cell? (ad102.add (((ji24)).toNat * 2)) = some (.int .i64 ((rd_T38 l0 (ji24)).f0)) ∧ w'.cell? ⟨(ad102.add (((ji24)).toNat * 2)).block, (ad102.add (((ji24)).toNat * 2)).off + 1, none⟩ = some (.int .i64 ((rd_T38 l0 (ji24)).f1)) ∧ w'.cell? (ad102.add (((ji27)).toNat * 2)) = some (.int .i64 ((rd_T38 l0 (ji27)).f0)) ∧ w'.cell? ⟨(ad102.add (((ji27)).toNat * 2)).block, (ad102.add (((ji27)).toNat * 2)).off + 1, none⟩ = some (.int .i64 ((rd_T38 l0 (ji27)).f1))) (ds := []) #[n_,n_,n_,n_,n_,n_,n_,n_,n_,n_,n_,n_,n_,n_,n_,n_,n_,n_,n_,n_,n_,n_] (by kernel_rfl) rfl rfl ⟨(blk_cell BK103.out 0).trans rfl, (blk_cell BK103.out 1).trans rfl, ((HB.out.cell (World.block_lt_of_cell? w _ hw110_0)).trans hw110_0), ((HB.out.cell (World.block_lt_of_cell? w _ hw110_1)).trans hw110_1), ((HB.out.cell (World.block_lt_of_cell? w _ hw111_0)).trans hw111_0), ((HB.out.cell (World.block_lt_of_cell? w _ hw111_1)).trans hw111_1)⟩ (fun hHeld => ?_); refine with_tabW impl_CodeTurns.tab8 impl_CodeTurns.bits8 (fun HT_ HW_ => ?_)
              generalize w34.drew = w35 at HO_3 BK103 HB hx110_0 hx110_1 hx111_0 hx111_1 hHeld ⊢; refine pure_ (i := 0) (N := some 20) (v := ?_) (a' := ?_) #[y_,n_,n_,n_,n_,n_,n_,n_,n_,n_,n_,n_,n_,n_,n_,n_,n_,n_,n_,n_,n_,n_] rfl rfl (any_of HT_.out (by kernel_rfl)) (fun _ _ _ h => h) (Or.inl ⟨by rfl, ?_⟩) ?_ ?_
              rotate_left
              ·intro w'; go_simp; with_reducible rfl
              rotate_left
              ·simp only [Act.put, List.setIfInBounds_toArray, List.set_cons_zero, List.set_cons_succ, i64_w, i32_w]; rfl
              refine pure_ (i := 1) (N := some 21) (v := ?_) (a' := ?_) #[y_,y_,n_,n_,n_,n_,n_,n_,n_,n_,n_,n_,n_,n_,n_,n_,n_,n_,n_,n_,n_,n_] rfl rfl (any_of HT_.out (by kernel_rfl)) (fun _ _ _ h => h) (Or.inl ⟨by rfl, ?_⟩) ?_ ?_
              rotate_left
              ·intro w'; go_simp; with_reducible rfl
              rotate_left
              ·simp only [Act.put, List.setIfInBounds_toArray, List.set_cons_zero, List.set_cons_succ, i64_w, i32_w]; rfl
              refine pure_ (i := 2) (N := some 22) (v := ?_) (a' := ?_) #[y_,y_,y_,n_,n_,n_,n_,n_,n_,n_,n_,n_,n_,n_,n_,n_,n_,n_,n_,n_,n_,n_] rfl rfl (any_of HT_.out (by kernel_rfl)) (fun _ _ _ h => h) (Or.inl ⟨by rfl, ?_⟩) ?_ ?_
              rotate_left
              ·intro w'; go_simp; with_reducible rfl
              rotate_left
              ·simp only [Act.put, List.setIfInBounds_toArray, List.set_cons_zero, List.set_cons_succ, i64_w, i32_w]; rfl
              refine pure_ (i := 3) (N := some 23) (v := ?_) (a' := ?_) #[y_,y_,y_,y_,n_,n_,n_,n_,n_,n_,n_,n_,n_,n_,n_,n_,n_,n_,n_,n_,n_,n_] rfl rfl (any_of HT_.out (by kernel_rfl)) (fun _ _ _ h => h) (Or.inl ⟨by rfl, ?_⟩) ?_ ?_
              rotate_left
              ·intro w'; go_simp; with_reducible rfl
              rotate_left
              ·simp only [Act.put, List.setIfInBounds_toArray, List.set_cons_zero, List.set_cons_succ, i64_w, i32_w]; rfl
              refine pure_ (i := 4) (N := some 24) (v := ?_) (a' := ?_) #[y_,y_,y_,y_,y_,n_,n_,n_,n_,n_,n_,n_,n_,n_,n_,n_,n_,n_,n_,n_,n_,n_] rfl rfl (any_of HT_.out (by kernel_rfl)) (fun _ _ _ h => h) (Or.inl ⟨by rfl, ?_⟩) ?_ ?_
              rotate_left
              ·intro w'; go_simp; with_reducible rfl
              rotate_left
              ·simp only [Act.put, List.setIfInBounds_toArray, List.set_cons_zero, List.set_cons_succ, i64_w, i32_w]; rfl
              refine pure_ (i := 5) (N := some 25) (v := ?_) (a' := ?_) #[y_,y_,y_,y_,y_,y_,n_,n_,n_,n_,n_,n_,n_,n_,n_,n_,n_,n_,n_,n_,n_,n_] rfl rfl (any_of HT_.out (by kernel_rfl)) (fun _ _ _ h => h) (Or.inl ⟨by rfl, ?_⟩) ?_ ?_
              rotate_left
              ·intro w'; go_simp; with_reducible rfl
              rotate_left
              ·simp only [Act.put, List.setIfInBounds_toArray, List.set_cons_zero, List.set_cons_succ, i64_w, i32_w]; rfl
              refine pure_ (i := 6) (N := some 26) (v := ?_) (a' := ?_) #[y_,y_,y_,y_,y_,y_,y_,n_,n_,n_,n_,n_,n_,n_,n_,n_,n_,n_,n_,n_,n_,n_] rfl rfl (any_of HT_.out (by kernel_rfl)) (fun _ _ _ h => h) (Or.inl ⟨by rfl, ?_⟩) ?_ ?_
              rotate_left
              ·intro w'; go_simp; with_reducible rfl
              rotate_left
              ·simp only [Act.put, List.setIfInBounds_toArray, List.set_cons_zero, List.set_cons_succ, i64_w, i32_w]; rfl
              refine pure_ (i := 7) (N := some 27) (v := ?_) (a' := ?_) #[y_,y_,y_,y_,y_,y_,y_,y_,n_,n_,n_,n_,n_,n_,n_,n_,n_,n_,n_,n_,n_,n_] rfl rfl (any_of HT_.out (by kernel_rfl)) (fun _ _ _ h => h) (Or.inl ⟨by rfl, ?_⟩) ?_ ?_
              rotate_left
              ·intro w'; go_simp; with_reducible rfl
              rotate_left
              ·simp only [Act.put, List.setIfInBounds_toArray, List.set_cons_zero, List.set_cons_succ, i64_w, i32_w]; rfl
              refine pure_ (i := 8) (N := some 28) (v := ?_) (a' := ?_) #[y_,y_,y_,y_,y_,y_,y_,y_,y_,n_,n_,n_,n_,n_,n_,n_,n_,n_,n_,n_,n_,n_] rfl rfl (any_of HT_.out (by kernel_rfl)) (fun _ _ _ h => h) (Or.inl ⟨by rfl, ?_⟩) ?_ ?_
              rotate_left
              ·intro w'; go_simp; with_reducible rfl
              rotate_left
              ·simp only [Act.put, List.setIfInBounds_toArray, List.set_cons_zero, List.set_cons_succ, i64_w, i32_w]; rfl
              refine pure_ (i := 9) (N := some 29) (v := ?_) (a' := ?_) #[y_,y_,y_,y_,y_,y_,y_,y_,y_,y_,n_,n_,n_,n_,n_,n_,n_,n_,n_,n_,n_,n_] rfl rfl (any_of HT_.out (by kernel_rfl)) (fun _ _ _ h => h) (Or.inl ⟨by rfl, ?_⟩) ?_ ?_
              rotate_left
              ·intro w'; go_simp; with_reducible rfl
              rotate_left
              ·simp only [Act.put, List.setIfInBounds_toArray, List.set_cons_zero, List.set_cons_succ, i64_w, i32_w]; rfl
              refine pure_ (i := 10) (N := some 30) (v := ?_) (a' := ?_) #[y_,y_,y_,y_,y_,y_,y_,y_,y_,y_,y_,n_,n_,n_,n_,n_,n_,n_,n_,n_,n_,n_] rfl rfl (any_of HT_.out (by kernel_rfl)) (fun _ _ _ h => h) (Or.inl ⟨by rfl, ?_⟩) ?_ ?_
              rotate_left
              ·intro w'; go_simp; with_reducible rfl
              rotate_left
              ·simp only [Act.put, List.setIfInBounds_toArray, List.set_cons_zero, List.set_cons_succ, i64_w, i32_w]; rfl
              refine pure_ (i := 11) (N := some 31) (v := ?_) (a' := ?_) #[y_,y_,y_,y_,y_,y_,y_,y_,y_,y_,y_,y_,n_,n_,n_,n_,n_,n_,n_,n_,n_,n_] rfl rfl (any_of HT_.out (by kernel_rfl)) (fun _ _ _ h => h) (Or.inl ⟨by rfl, ?_⟩) ?_ ?_
              rotate_left
              ·intro w'; go_simp; with_reducible rfl
              rotate_left
              ·simp only [Act.put, List.setIfInBounds_toArray, List.set_cons_zero, List.set_cons_succ, i64_w, i32_w]; rfl
              refine pure_ (i := 14) (N := some 34) (v := ?_) (a' := ?_) #[y_,y_,y_,y_,y_,y_,y_,y_,y_,y_,y_,y_,n_,n_,y_,n_,n_,n_,n_,n_,n_,n_] rfl rfl (any_of HT_.out (by kernel_rfl)) (fun _ _ _ h => h) (Or.inl ⟨by rfl, ?_⟩) ?_ ?_
              rotate_left
              ·intro w'; go_simp; with_reducible rfl
              rotate_left
              ·simp only [Act.put, List.setIfInBounds_toArray, List.set_cons_zero, List.set_cons_succ, i64_w, i32_w]; rfl
              refine pure_ (i := 15) (N := some 35) (v := ?_) (a' := ?_) #[y_,y_,y_,y_,y_,y_,y_,y_,y_,y_,y_,y_,n_,n_,y_,y_,n_,n_,n_,n_,n_,n_] rfl rfl (any_of HT_.out (by kernel_rfl)) (fun _ _ _ h => h) (Or.inl ⟨by rfl, ?_⟩) ?_ ?_
              rotate_left
              ·intro w'; go_simp; with_reducible rfl
              rotate_left
              ·simp only [Act.put, List.setIfInBounds_toArray, List.set_cons_zero, List.set_cons_succ, i64_w, i32_w]; rfl
              refine pure_ (i := 16) (N := some 36) (v := ?_) (a' := ?_) #[y_,y_,y_,y_,y_,y_,y_,y_,y_,y_,y_,y_,n_,n_,y_,y_,y_,n_,n_,n_,n_,n_] rfl rfl (any_of HT_.out (by kernel_rfl)) (fun _ _ _ h => h) (Or.inl ⟨by rfl, ?_⟩) ?_ ?_
              rotate_left
              ·intro w'; go_simp; with_reducible rfl
              rotate_left
              ·simp only [Act.put, List.setIfInBounds_toArray, List.set_cons_zero, List.set_cons_succ, i64_w, i32_w]; rfl
              refine pure_ (i := 17) (N := some 37) (v := ?_) (a' := ?_) #[y_,y_,y_,y_,y_,y_,y_,y_,y_,y_,y_,y_,n_,n_,y_,y_,y_,y_,n_,n_,n_,n_] rfl rfl (any_of HT_.out (by kernel_rfl)) (fun _ _ _ h => h) (Or.inl ⟨by rfl, ?_⟩) ?_ ?_
              rotate_left
              ·intro w'; go_simp; with_reducible rfl
              rotate_left
              ·simp only [Act.put, List.setIfInBounds_toArray, List.set_cons_zero, List.set_cons_succ, i64_w, i32_w]; rfl
              refine take_ (i := 12) (N := some 32) (v := ?_) (a' := ?_) #[y_,y_,y_,y_,y_,y_,y_,y_,y_,y_,y_,y_,y_,n_,y_,y_,y_,y_,n_,n_,n_,n_] rfl rfl (take_ofW HT_.out HW_.out (by kernel_rfl)) (fun _ _ _ h => h) (Or.inl ⟨by rfl, ?_⟩) hHeld ?_ ?_
              rotate_left
              ·rintro w' ⟨s0, s1, s2, s3, s4, s5⟩; go_simp; with_reducible rfl
              rotate_left
              ·simp only [Act.put, List.setIfInBounds_toArray, List.set_cons_zero, List.set_cons_succ, i64_w, i32_w]; rfl
              refine take_ (i := 13) (N := some 33) (v := ?_) (a' := ?_) #[y_,y_,y_,y_,y_,y_,y_,y_,y_,y_,y_,y_,y_,y_,y_,y_,y_,y_,n_,n_,n_,n_] rfl rfl (take_ofW HT_.out HW_.out (by kernel_rfl)) (fun _ _ _ h => h) (Or.inl ⟨by rfl, ?_⟩) hHeld ?_ ?_
              rotate_left
              ·rintro w' ⟨s0, s1, s2, s3, s4, s5⟩; go_simp; with_reducible rfl
              rotate_left
              ·simp only [Act.put, List.setIfInBounds_toArray, List.set_cons_zero, List.set_cons_succ, i64_w, i32_w]; rfl
              refine take_ (i := 18) (N := some 38) (v := ?_) (a' := ?_) #[y_,y_,y_,y_,y_,y_,y_,y_,y_,y_,y_,y_,y_,y_,y_,y_,y_,y_,y_,n_,n_,n_] rfl rfl (take_ofW HT_.out HW_.out (by kernel_rfl)) (fun _ _ _ h => h) (Or.inl ⟨by rfl, ?_⟩) hHeld ?_ ?_
              rotate_left
              ·rintro w' ⟨s0, s1, s2, s3, s4, s5⟩; go_simp; with_reducible rfl
              rotate_left
              ·simp only [Act.put, List.setIfInBounds_toArray, List.set_cons_zero, List.set_cons_succ, i64_w, i32_w]; rfl
              refine one_ (i := 19) (N := some 39) #[y_,y_,y_,y_,y_,y_,y_,y_,y_,y_,y_,y_,y_,y_,y_,y_,y_,y_,y_,y_,n_,n_] rfl rfl (one_of HT_.out (by kernel_rfl)) (by decide) (fun K hK => ?_); refine goes_ Try.func31 (by kernel_rfl) rfl #[.agg #[.int .i64 ((rd_T38 l0 (ji24)).f0), .int .i64 ((rd_T38 l0 (ji24)).f1)], .agg #[.int .i64 ((rd_T38 l0 x15_1).f0), .int .i64 ((rd_T38 l0 x15_1).f1)], .agg #[.int .i64 ((rd_T38 l0 (ji27)).f0), .int .i64 ((rd_T38 l0 (ji27)).f1)]] (by rfl) rfl rfl (by (try simp only [List.map_toArray, List.map_cons, List.map_nil]); first | done | (simp only [hji24, hji27]; rfl) | rfl | (simp only [List.length_drop, List.length_take]; rfl)) ?_
              with_reducible refine (impl_goesOn.calls ((rd_T38 l0 (ji24)).f0) ((rd_T38 l0 (ji24)).f1) ((rd_T38 l0 x15_1).f0) ((rd_T38 l0 x15_1).f1) ((rd_T38 l0 (ji27)).f0) ((rd_T38 l0 (ji27)).f1) true _ A30.out).mono ?_
              rintro e w36 ⟨rfl, hb⟩; refine ⟨_, rfl, ?_⟩; have n0_ := Aside0.mk (Kd.R_below (by (with_reducible repeat (first | apply Kd.R_alloc | apply Kd.R_drewN | apply Kd.R_drew)); exact HO_3.out) hb); have n1_ := Aside0.mk (blk_below (g := gb103) (o := .cells #[.int .i64 ((rd_T38 l0 x15_1).f0), .int .i64 ((rd_T38 l0 x15_1).f1)] 38 (0, 0)) (by (with_reducible repeat (first | refine blk_drewN ?_ _ | refine blk_drew ?_ | refine blk_alloc ?_ _)); exact BK103.out) hb); have n2_ := Aside0.mk (below_step (by repeat (first | (with_reducible first | exact HB.out | apply below_alloc | apply pw_below_drewN | apply below_drew1 | refine below_set ?_ GE103.out) | exact HB.out)) hb); clear HO_3; clear BK103; clear HB; have HO_3 := n0_; have BK103 := n1_; have HB := n2_; clear n0_ n1_ n2_; (try clear hb); (try clear hb2); (try clear hk); (try clear hi); refine hK.out _ _ ⟨(blk_cell BK103.out 0).trans rfl, (blk_cell BK103.out 1).trans rfl, ((HB.out.cell (World.block_lt_of_cell? w _ hw110_0)).trans hw110_0), ((HB.out.cell (World.block_lt_of_cell? w _ hw110_1)).trans hw110_1), ((HB.out.cell (World.block_lt_of_cell? w _ hw111_0)).trans hw111_0), ((HB.out.cell (World.block_lt_of_cell? w _ hw111_1)).trans hw111_1)⟩ (fun hHeld => ?_); clear hK K; refine norm_ (a' := ?_) ?_ ?_
              rotate_left
              ·show Act.put _ (some 39) _ = _
               simp only [Act.put, List.setIfInBounds_toArray, List.set_cons_zero, List.set_cons_succ, i64_w, i32_w]; rfl
              refine pure_ (i := 20) (N := some 40) (v := ?_) (a' := ?_) #[y_,y_,y_,y_,y_,y_,y_,y_,y_,y_,y_,y_,y_,y_,y_,y_,y_,y_,y_,y_,y_,n_] rfl rfl (any_of HT_.out (by kernel_rfl)) (fun _ _ _ h => h) (Or.inl ⟨by rfl, ?_⟩) ?_ ?_
              rotate_left
              ·intro w'; go_simp; with_reducible rfl
              rotate_left
              ·simp only [Act.put, List.setIfInBounds_toArray, List.set_cons_zero, List.set_cons_succ, i64_w, i32_w]; rfl
              refine pure_ (i := 21) (N := some 41) (v := ?_) (a' := ?_) #[y_,y_,y_,y_,y_,y_,y_,y_,y_,y_,y_,y_,y_,y_,y_,y_,y_,y_,y_,y_,y_,y_] rfl rfl (any_of HT_.out (by kernel_rfl)) (fun _ _ _ h => h) (Or.inl ⟨by rfl, ?_⟩) ?_ ?_
              rotate_left
              ·intro w'; go_simp; with_reducible rfl
              rotate_left
              ·simp only [Act.put, List.setIfInBounds_toArray, List.set_cons_zero, List.set_cons_succ, i64_w, i32_w]; rfl
              refine done_ (done_of HT_.out (by kernel_rfl)) ?_
              try go_wp2
              go_roundg k1
              case measure => have := HK1.out; omega
              case rel => exact ⟨(x3_1), (ji27), (by first | rfl | (simp; done) | (simp only [← hji27] <;> (first | rfl | simp)) | (simp [*]; done)), H', ⟨by have := HK1.out; omega⟩, ⟨by (with_reducible repeat (first | apply Kd.R_alloc | apply Kd.R_drewN | apply Kd.R_drew)); exact Kd.R_mono HO_3.out (fun _ hk => trivial)⟩, ⟨by repeat (first | (with_reducible first | exact HB.out | apply below_alloc | apply pw_below_drewN | apply below_drew1 | refine below_set ?_ GE103.out) | exact HB.out)⟩⟩
             ·replace c31 := Bool.eq_false_iff.mpr c31
              subst c31
              have H1 : (if x3_1.length < 8796093022208 then (impl_CodeTurns.l0 k1 l0 (x3_1 ++ [(⟨(rd_T38 l0 x15_1).f0, (rd_T38 l0 x15_1).f1⟩ : S38)]) (wrap64 ((l0.length : Int) - 1)) l0 (l0.length : Int) ji27) else (none)) = some r := by rw [if_neg (show ¬ (false = true) by decide)] at H; exact H
              clear H; have H := H1; clear H1
              by_cases c37 : x3_1.length < 8796093022208
              ·rw [if_pos c37] at H
               have LMc37 := Aside0.mk c37; clear c37; obtain ⟨y113, hy113⟩ : ∃ y_ : List (S38), y_ = (x3_1 ++ [(⟨(rd_T38 l0 x15_1).f0, (rd_T38 l0 x15_1).f1⟩ : S38)]) := ⟨_, rfl⟩
               replace H : (impl_CodeTurns.l0 k1 l0 y113 (wrap64 ((l0.length : Int) - 1)) l0 (l0.length : Int) ji27) = some r := by first | (rw [hy113]; with_reducible exact H) | (have H2_ := (Option.bind_some _ _).symm.trans H; rw [hy113]; with_reducible exact H2_) | (have H2_ := (Option.bind_some _ _).symm.trans H; with_reducible exact H2_) | with_reducible exact H | (rw [hy113]; exact H) | exact H
               have Ny113 := Aside0.mk hy113; clear hy113; have H' := Aside0.mk H; clear H; have p102 : 0 ≤ (x15_1 : Int) := of_decide_eq_true (by first | (with_reducible assumption) | assumption); have q102 : x15_1 < (l0.length : Int) := of_decide_eq_true (by first | (with_reducible assumption) | assumption); obtain ⟨ad102, e102, hx102_0, hx102_1⟩ := at_T38 HR0.out x15_1 p102 q102
               cases e102
               replace hx102_0 := (HB.out.cell (World.block_lt_of_cell? w _ hx102_0)).trans hx102_0; replace hx102_1 := (HB.out.cell (World.block_lt_of_cell? w _ hx102_1)).trans hx102_1; replace p102 := eq_true p102; replace q102 := eq_true q102
               try go_wp2_with (first | ((with_reducible refine gate_dst (N := 6) rfl ?_); refine box_event ?hg (N := 6) ?hd (cs := #[.int .i64 0, .int .i64 0]) (t := 38) ?hr ?_; (case hd => rfl); (case hg => rfl); (case hr => first | (go_simp; done) | (go_simp; rfl)); intro gb103 hg w38 hbox hb; have n0_ := Aside0.mk (Kd.R_below (Kd.R_elderB (by (with_reducible repeat (first | apply Kd.R_alloc | apply Kd.R_drewN | apply Kd.R_drew)); exact HO_3.out) gb103 (Nat.le_of_eq hg.symm)) hb); have n1_ := Aside0.mk (below_step (by repeat (first | (with_reducible first | exact HB.out | apply below_alloc | apply pw_below_drewN | apply below_drew1) | exact HB.out)) hb); have n2_ := Aside0.mk (hbox); have n3_ := Aside0.mk ((by rw [hg]; exact (below_size (by repeat (first | (with_reducible first | exact HB.out | apply below_alloc | apply pw_below_drewN | apply below_drew1) | exact HB.out))) : w.heap.size ≤ gb103)); have n4_ := Aside0.mk ((by rw [hg]; exact (below_size (by repeat (first | (with_reducible first | exact HB.out | apply below_alloc | apply pw_below_drewN | apply below_drew1) | exact HB.out))) : w.heap.size ≤ gb103)); clear HO_3; clear HB; have HO_3 := n0_; have HB := n1_; have BK103 := n2_; have GW103 := n3_; have GE103 := n4_; clear n0_ n1_ n2_ n3_ n4_; clear hb hbox hg; have hcz39_0 : w38.cell? ⟨gb103, 0, none⟩ = some (.int .i64 0) := (blk_cell BK103.out 0).trans rfl; have hcz39_1 : w38.cell? ⟨gb103, 1, none⟩ = some (.int .i64 0) := (blk_cell BK103.out 1).trans rfl; have hfz39_0 := blk_frozen BK103.out 0; have hfz39_1 := blk_frozen BK103.out 1))
               have n0_ : Aside0 (Kd.R k38 38 ((w38.setCell ⟨gb103, 0, none⟩ (.int .i64 ((rd_T38 l0 x15_1).f0))).setCell ⟨gb103, 1, none⟩ (.int .i64 ((rd_T38 l0 x15_1).f1))) w.heap.size (fun k_ => k_ ≠ gb103) u3 x3_1) := ⟨by (with_reducible repeat (first | apply Kd.R_alloc | apply Kd.R_drewN | apply Kd.R_drew)); exact Kd.R_mono (Kd.R_far (p := ⟨gb103, 1, none⟩) (Kd.R_far (p := ⟨gb103, 0, none⟩) (Kd.R_mono HO_3.out (fun k_ hk => (⟨hk, hk.2⟩ : _ ∧ k_ ≠ gb103))) (fun _ hk => hk.2) (.int .i64 ((rd_T38 l0 x15_1).f0))) (fun _ hk => hk.2) (.int .i64 ((rd_T38 l0 x15_1).f1))) (fun _ hk => hk.1.2)⟩; have n1_ : Aside0 (((w38.setCell ⟨gb103, 0, none⟩ (.int .i64 ((rd_T38 l0 x15_1).f0))).setCell ⟨gb103, 1, none⟩ (.int .i64 ((rd_T38 l0 x15_1).f1))).heap[gb103]? = some (.cells #[.int .i64 ((rd_T38 l0 x15_1).f0), .int .i64 ((rd_T38 l0 x15_1).f1)] 38 (0, 0))) := ⟨by (with_reducible repeat (first | refine blk_drewN ?_ _ | refine blk_drew ?_ | refine blk_alloc ?_ _)); refine blk_put (cs := #[.int .i64 ((rd_T38 l0 x15_1).f0), .int .i64 0]) ?_ 1 _ rfl; (with_reducible repeat (first | refine blk_drewN ?_ _ | refine blk_drew ?_ | refine blk_alloc ?_ _)); refine blk_put (cs := #[.int .i64 0, .int .i64 0]) ?_ 0 _ rfl; (with_reducible repeat (first | refine blk_drewN ?_ _ | refine blk_drew ?_ | refine blk_alloc ?_ _)); exact BK103.out⟩; have n2_ : Aside0 (Below w.heap.size w ((w38.setCell ⟨gb103, 0, none⟩ (.int .i64 ((rd_T38 l0 x15_1).f0))).setCell ⟨gb103, 1, none⟩ (.int .i64 ((rd_T38 l0 x15_1).f1)))) := ⟨by repeat (first | (with_reducible first | exact HB.out | apply below_alloc | apply pw_below_drewN | apply below_drew1 | refine below_set ?_ GE103.out) | exact HB.out)⟩; (try clear HO_3); (try clear BK103); (try clear HB); generalize ((w38.setCell ⟨gb103, 0, none⟩ (.int .i64 ((rd_T38 l0 x15_1).f0))).setCell ⟨gb103, 1, none⟩ (.int .i64 ((rd_T38 l0 x15_1).f1))) = w40 at n0_ n1_ n2_ ⊢; have HO_3 := n0_; have BK103 := n1_; have HB := n2_; clear n0_ n1_ n2_; have n0_ := Aside0.mk (Kd.R_drew HO_3.out); have n1_ := Aside0.mk (blk_drew BK103.out); have n2_ := Aside0.mk (below_drew1 HB.out); clear HO_3; clear BK103; clear HB; have HO_3 := n0_; have BK103 := n1_; have HB := n2_; clear n0_ n1_ n2_; have p110 : 0 ≤ ((ji24) : Int) := of_decide_eq_true (by first | (with_reducible assumption) | assumption); have q110 : (ji24) < (l0.length : Int) := of_decide_eq_true (by first | (with_reducible assumption) | assumption); obtain ⟨ad110, e110, hx110_0, hx110_1⟩ := at_T38 HR0.out (ji24) p110 q110; have hw110_1 := hx110_1; have hw110_0 := hx110_0; obtain rfl : ad102 = ad110 := (by injection e110); replace hx110_0 := (HB.out.cell (World.block_lt_of_cell? w _ hx110_0)).trans hx110_0; replace hx110_1 := (HB.out.cell (World.block_lt_of_cell? w _ hx110_1)).trans hx110_1; replace p110 := eq_true p110; replace q110 := eq_true q110; have p111 : 0 ≤ ((ji27) : Int) := of_decide_eq_true (by first | (with_reducible assumption) | assumption); have q111 : (ji27) < (l0.length : Int) := of_decide_eq_true (by first | (with_reducible assumption) | assumption); obtain ⟨ad111, e111, hx111_0, hx111_1⟩ := at_T38 HR0.out (ji27) p111 q111; have hw111_1 := hx111_1; have hw111_0 := hx111_0; obtain rfl : ad102 = ad111 := (by injection e111); replace hx111_0 := (HB.out.cell (World.block_lt_of_cell? w _ hx111_0)).trans hx111_0; replace hx111_1 := (HB.out.cell (World.block_lt_of_cell? w _ hx111_1)).trans hx111_1; replace p111 := eq_true p111; replace q111 := eq_true q111; refine start_ (n := 22) (S := fun w' => w'.cell? ⟨gb103, 0, none⟩ = some (.int .i64 ((rd_T38 l0 x15_1).f0)) ∧ w'.cell? ⟨gb103, 1, none⟩ = some (.int .i64 ((rd_T38 l0 x15_1).f1)) ∧ w'.cell? (ad102.add (((ji24)).toNat * 2)) = some (.int .i64 ((rd_T38 l0 (ji24)).f0)) ∧ w'.cell? ⟨(ad102.add (((ji24)).toNat * 2)).block, (ad102.add (((ji24)).toNat * 2)).off + 1, none⟩ = some (.int .i64 ((rd_T38 l0 (ji24)).f1)) ∧ w'.cell? (ad102.add (((ji27)).toNat * 2)) = some (.int .i64 ((rd_T38 l0 (ji27)).f0)) ∧ w'.cell? ⟨(ad102.add (((ji27)).toNat * 2)).block, (ad102.add (((ji27)).toNat * 2)).off + 1, none⟩ = some (.int .i64 ((rd_T38 l0 (ji27)).f1))) (ds := []) #[n_,n_,n_,n_,n_,n_,n_,n_,n_,n_,n_,n_,n_,n_,n_,n_,n_,n_,n_,n_,n_,n_] (by kernel_rfl) rfl rfl ⟨(blk_cell BK103.out 0).trans rfl, (blk_cell BK103.out 1).trans rfl, ((HB.out.cell (World.block_lt_of_cell? w _ hw110_0)).trans hw110_0), ((HB.out.cell (World.block_lt_of_cell? w _ hw110_1)).trans hw110_1), ((HB.out.cell (World.block_lt_of_cell? w _ hw111_0)).trans hw111_0), ((HB.out.cell (World.block_lt_of_cell? w _ hw111_1)).trans hw111_1)⟩ (fun hHeld => ?_); refine with_tabW impl_CodeTurns.tab8 impl_CodeTurns.bits8 (fun HT_ HW_ => ?_)
               generalize w40.drew = w41 at HO_3 BK103 HB hx110_0 hx110_1 hx111_0 hx111_1 hHeld ⊢; refine pure_ (i := 0) (N := some 20) (v := ?_) (a' := ?_) #[y_,n_,n_,n_,n_,n_,n_,n_,n_,n_,n_,n_,n_,n_,n_,n_,n_,n_,n_,n_,n_,n_] rfl rfl (any_of HT_.out (by kernel_rfl)) (fun _ _ _ h => h) (Or.inl ⟨by rfl, ?_⟩) ?_ ?_
               rotate_left
               ·intro w'; go_simp; with_reducible rfl
               rotate_left
               ·simp only [Act.put, List.setIfInBounds_toArray, List.set_cons_zero, List.set_cons_succ, i64_w, i32_w]; rfl
               refine pure_ (i := 1) (N := some 21) (v := ?_) (a' := ?_) #[y_,y_,n_,n_,n_,n_,n_,n_,n_,n_,n_,n_,n_,n_,n_,n_,n_,n_,n_,n_,n_,n_] rfl rfl (any_of HT_.out (by kernel_rfl)) (fun _ _ _ h => h) (Or.inl ⟨by rfl, ?_⟩) ?_ ?_
               rotate_left
               ·intro w'; go_simp; with_reducible rfl
               rotate_left
               ·simp only [Act.put, List.setIfInBounds_toArray, List.set_cons_zero, List.set_cons_succ, i64_w, i32_w]; rfl
               refine pure_ (i := 2) (N := some 22) (v := ?_) (a' := ?_) #[y_,y_,y_,n_,n_,n_,n_,n_,n_,n_,n_,n_,n_,n_,n_,n_,n_,n_,n_,n_,n_,n_] rfl rfl (any_of HT_.out (by kernel_rfl)) (fun _ _ _ h => h) (Or.inl ⟨by rfl, ?_⟩) ?_ ?_
               rotate_left
               ·intro w'; go_simp; with_reducible rfl
               rotate_left
               ·simp only [Act.put, List.setIfInBounds_toArray, List.set_cons_zero, List.set_cons_succ, i64_w, i32_w]; rfl
               refine pure_ (i := 3) (N := some 23) (v := ?_) (a' := ?_) #[y_,y_,y_,y_,n_,n_,n_,n_,n_,n_,n_,n_,n_,n_,n_,n_,n_,n_,n_,n_,n_,n_] rfl rfl (any_of HT_.out (by kernel_rfl)) (fun _ _ _ h => h) (Or.inl ⟨by rfl, ?_⟩) ?_ ?_
               rotate_left
               ·intro w'; go_simp; with_reducible rfl
               rotate_left
               ·simp only [Act.put, List.setIfInBounds_toArray, List.set_cons_zero, List.set_cons_succ, i64_w, i32_w]; rfl
               refine pure_ (i := 4) (N := some 24) (v := ?_) (a' := ?_) #[y_,y_,y_,y_,y_,n_,n_,n_,n_,n_,n_,n_,n_,n_,n_,n_,n_,n_,n_,n_,n_,n_] rfl rfl (any_of HT_.out (by kernel_rfl)) (fun _ _ _ h => h) (Or.inl ⟨by rfl, ?_⟩) ?_ ?_
               rotate_left
               ·intro w'; go_simp; with_reducible rfl
               rotate_left
               ·simp only [Act.put, List.setIfInBounds_toArray, List.set_cons_zero, List.set_cons_succ, i64_w, i32_w]; rfl
               refine pure_ (i := 5) (N := some 25) (v := ?_) (a' := ?_) #[y_,y_,y_,y_,y_,y_,n_,n_,n_,n_,n_,n_,n_,n_,n_,n_,n_,n_,n_,n_,n_,n_] rfl rfl (any_of HT_.out (by kernel_rfl)) (fun _ _ _ h => h) (Or.inl ⟨by rfl, ?_⟩) ?_ ?_
               rotate_left
               ·intro w'; go_simp; with_reducible rfl
               rotate_left
               ·simp only [Act.put, List.setIfInBounds_toArray, List.set_cons_zero, List.set_cons_succ, i64_w, i32_w]; rfl
               refine pure_ (i := 6) (N := some 26) (v := ?_) (a' := ?_) #[y_,y_,y_,y_,y_,y_,y_,n_,n_,n_,n_,n_,n_,n_,n_,n_,n_,n_,n_,n_,n_,n_] rfl rfl (any_of HT_.out (by kernel_rfl)) (fun _ _ _ h => h) (Or.inl ⟨by rfl, ?_⟩) ?_ ?_
               rotate_left
               ·intro w'; go_simp; with_reducible rfl
               rotate_left
               ·simp only [Act.put, List.setIfInBounds_toArray, List.set_cons_zero, List.set_cons_succ, i64_w, i32_w]; rfl
               refine pure_ (i := 7) (N := some 27) (v := ?_) (a' := ?_) #[y_,y_,y_,y_,y_,y_,y_,y_,n_,n_,n_,n_,n_,n_,n_,n_,n_,n_,n_,n_,n_,n_] rfl rfl (any_of HT_.out (by kernel_rfl)) (fun _ _ _ h => h) (Or.inl ⟨by rfl, ?_⟩) ?_ ?_
               rotate_left
               ·intro w'; go_simp; with_reducible rfl
               rotate_left
               ·simp only [Act.put, List.setIfInBounds_toArray, List.set_cons_zero, List.set_cons_succ, i64_w, i32_w]; rfl
               refine pure_ (i := 8) (N := some 28) (v := ?_) (a' := ?_) #[y_,y_,y_,y_,y_,y_,y_,y_,y_,n_,n_,n_,n_,n_,n_,n_,n_,n_,n_,n_,n_,n_] rfl rfl (any_of HT_.out (by kernel_rfl)) (fun _ _ _ h => h) (Or.inl ⟨by rfl, ?_⟩) ?_ ?_
               rotate_left
               ·intro w'; go_simp; with_reducible rfl
               rotate_left
               ·simp only [Act.put, List.setIfInBounds_toArray, List.set_cons_zero, List.set_cons_succ, i64_w, i32_w]; rfl
               refine pure_ (i := 9) (N := some 29) (v := ?_) (a' := ?_) #[y_,y_,y_,y_,y_,y_,y_,y_,y_,y_,n_,n_,n_,n_,n_,n_,n_,n_,n_,n_,n_,n_] rfl rfl (any_of HT_.out (by kernel_rfl)) (fun _ _ _ h => h) (Or.inl ⟨by rfl, ?_⟩) ?_ ?_
               rotate_left
               ·intro w'; go_simp; with_reducible rfl
               rotate_left
               ·simp only [Act.put, List.setIfInBounds_toArray, List.set_cons_zero, List.set_cons_succ, i64_w, i32_w]; rfl
               refine pure_ (i := 10) (N := some 30) (v := ?_) (a' := ?_) #[y_,y_,y_,y_,y_,y_,y_,y_,y_,y_,y_,n_,n_,n_,n_,n_,n_,n_,n_,n_,n_,n_] rfl rfl (any_of HT_.out (by kernel_rfl)) (fun _ _ _ h => h) (Or.inl ⟨by rfl, ?_⟩) ?_ ?_
               rotate_left
               ·intro w'; go_simp; with_reducible rfl
               rotate_left
               ·simp only [Act.put, List.setIfInBounds_toArray, List.set_cons_zero, List.set_cons_succ, i64_w, i32_w]; rfl
               refine pure_ (i := 11) (N := some 31) (v := ?_) (a' := ?_) #[y_,y_,y_,y_,y_,y_,y_,y_,y_,y_,y_,y_,n_,n_,n_,n_,n_,n_,n_,n_,n_,n_] rfl rfl (any_of HT_.out (by kernel_rfl)) (fun _ _ _ h => h) (Or.inl ⟨by rfl, ?_⟩) ?_ ?_
               rotate_left
               ·intro w'; go_simp; with_reducible rfl
               rotate_left
               ·simp only [Act.put, List.setIfInBounds_toArray, List.set_cons_zero, List.set_cons_succ, i64_w, i32_w]; rfl
               refine pure_ (i := 14) (N := some 34) (v := ?_) (a' := ?_) #[y_,y_,y_,y_,y_,y_,y_,y_,y_,y_,y_,y_,n_,n_,y_,n_,n_,n_,n_,n_,n_,n_] rfl rfl (any_of HT_.out (by kernel_rfl)) (fun _ _ _ h => h) (Or.inl ⟨by rfl, ?_⟩) ?_ ?_
               rotate_left
               ·intro w'; go_simp; with_reducible rfl
               rotate_left
               ·simp only [Act.put, List.setIfInBounds_toArray, List.set_cons_zero, List.set_cons_succ, i64_w, i32_w]; rfl
               refine pure_ (i := 15) (N := some 35) (v := ?_) (a' := ?_) #[y_,y_,y_,y_,y_,y_,y_,y_,y_,y_,y_,y_,n_,n_,y_,y_,n_,n_,n_,n_,n_,n_] rfl rfl (any_of HT_.out (by kernel_rfl)) (fun _ _ _ h => h) (Or.inl ⟨by rfl, ?_⟩) ?_ ?_
               rotate_left
               ·intro w'; go_simp; with_reducible rfl
               rotate_left
               ·simp only [Act.put, List.setIfInBounds_toArray, List.set_cons_zero, List.set_cons_succ, i64_w, i32_w]; rfl
               refine pure_ (i := 16) (N := some 36) (v := ?_) (a' := ?_) #[y_,y_,y_,y_,y_,y_,y_,y_,y_,y_,y_,y_,n_,n_,y_,y_,y_,n_,n_,n_,n_,n_] rfl rfl (any_of HT_.out (by kernel_rfl)) (fun _ _ _ h => h) (Or.inl ⟨by rfl, ?_⟩) ?_ ?_
               rotate_left
               ·intro w'; go_simp; with_reducible rfl
               rotate_left
               ·simp only [Act.put, List.setIfInBounds_toArray, List.set_cons_zero, List.set_cons_succ, i64_w, i32_w]; rfl
               refine pure_ (i := 17) (N := some 37) (v := ?_) (a' := ?_) #[y_,y_,y_,y_,y_,y_,y_,y_,y_,y_,y_,y_,n_,n_,y_,y_,y_,y_,n_,n_,n_,n_] rfl rfl (any_of HT_.out (by kernel_rfl)) (fun _ _ _ h => h) (Or.inl ⟨by rfl, ?_⟩) ?_ ?_
               rotate_left
               ·intro w'; go_simp; with_reducible rfl
               rotate_left
               ·simp only [Act.put, List.setIfInBounds_toArray, List.set_cons_zero, List.set_cons_succ, i64_w, i32_w]; rfl
               refine take_ (i := 12) (N := some 32) (v := ?_) (a' := ?_) #[y_,y_,y_,y_,y_,y_,y_,y_,y_,y_,y_,y_,y_,n_,y_,y_,y_,y_,n_,n_,n_,n_] rfl rfl (take_ofW HT_.out HW_.out (by kernel_rfl)) (fun _ _ _ h => h) (Or.inl ⟨by rfl, ?_⟩) hHeld ?_ ?_
               rotate_left
               ·rintro w' ⟨s0, s1, s2, s3, s4, s5⟩; go_simp; with_reducible rfl
               rotate_left
               ·simp only [Act.put, List.setIfInBounds_toArray, List.set_cons_zero, List.set_cons_succ, i64_w, i32_w]; rfl
               refine take_ (i := 13) (N := some 33) (v := ?_) (a' := ?_) #[y_,y_,y_,y_,y_,y_,y_,y_,y_,y_,y_,y_,y_,y_,y_,y_,y_,y_,n_,n_,n_,n_] rfl rfl (take_ofW HT_.out HW_.out (by kernel_rfl)) (fun _ _ _ h => h) (Or.inl ⟨by rfl, ?_⟩) hHeld ?_ ?_
               rotate_left
               ·rintro w' ⟨s0, s1, s2, s3, s4, s5⟩; go_simp; with_reducible rfl
               rotate_left
               ·simp only [Act.put, List.setIfInBounds_toArray, List.set_cons_zero, List.set_cons_succ, i64_w, i32_w]; rfl
               refine take_ (i := 18) (N := some 38) (v := ?_) (a' := ?_) #[y_,y_,y_,y_,y_,y_,y_,y_,y_,y_,y_,y_,y_,y_,y_,y_,y_,y_,y_,n_,n_,n_] rfl rfl (take_ofW HT_.out HW_.out (by kernel_rfl)) (fun _ _ _ h => h) (Or.inl ⟨by rfl, ?_⟩) hHeld ?_ ?_
               rotate_left
               ·rintro w' ⟨s0, s1, s2, s3, s4, s5⟩; go_simp; with_reducible rfl
               rotate_left
               ·simp only [Act.put, List.setIfInBounds_toArray, List.set_cons_zero, List.set_cons_succ, i64_w, i32_w]; rfl
               refine one_ (i := 19) (N := some 39) #[y_,y_,y_,y_,y_,y_,y_,y_,y_,y_,y_,y_,y_,y_,y_,y_,y_,y_,y_,y_,n_,n_] rfl rfl (one_of HT_.out (by kernel_rfl)) (by decide) (fun K hK => ?_); refine goes_ Try.func31 (by kernel_rfl) rfl #[.agg #[.int .i64 ((rd_T38 l0 (ji24)).f0), .int .i64 ((rd_T38 l0 (ji24)).f1)], .agg #[.int .i64 ((rd_T38 l0 x15_1).f0), .int .i64 ((rd_T38 l0 x15_1).f1)], .agg #[.int .i64 ((rd_T38 l0 (ji27)).f0), .int .i64 ((rd_T38 l0 (ji27)).f1)]] (by rfl) rfl rfl (by (try simp only [List.map_toArray, List.map_cons, List.map_nil]); first | done | (simp only [hji24, hji27]; rfl) | rfl | (simp only [List.length_drop, List.length_take]; rfl)) ?_
               with_reducible refine (impl_goesOn.calls ((rd_T38 l0 (ji24)).f0) ((rd_T38 l0 (ji24)).f1) ((rd_T38 l0 x15_1).f0) ((rd_T38 l0 x15_1).f1) ((rd_T38 l0 (ji27)).f0) ((rd_T38 l0 (ji27)).f1) false _ A30.out).mono ?_
               rintro e w42 ⟨rfl, hb⟩; refine ⟨_, rfl, ?_⟩; have n0_ := Aside0.mk (Kd.R_below (by (with_reducible repeat (first | apply Kd.R_alloc | apply Kd.R_drewN | apply Kd.R_drew)); exact HO_3.out) hb); have n1_ := Aside0.mk (blk_below (g := gb103) (o := .cells #[.int .i64 ((rd_T38 l0 x15_1).f0), .int .i64 ((rd_T38 l0 x15_1).f1)] 38 (0, 0)) (by (with_reducible repeat (first | refine blk_drewN ?_ _ | refine blk_drew ?_ | refine blk_alloc ?_ _)); exact BK103.out) hb); have n2_ := Aside0.mk (below_step (by repeat (first | (with_reducible first | exact HB.out | apply below_alloc | apply pw_below_drewN | apply below_drew1 | refine below_set ?_ GE103.out) | exact HB.out)) hb); clear HO_3; clear BK103; clear HB; have HO_3 := n0_; have BK103 := n1_; have HB := n2_; clear n0_ n1_ n2_; (try clear hb); (try clear hb2); (try clear hk); (try clear hi); refine hK.out _ _ ⟨(blk_cell BK103.out 0).trans rfl, (blk_cell BK103.out 1).trans rfl, ((HB.out.cell (World.block_lt_of_cell? w _ hw110_0)).trans hw110_0), ((HB.out.cell (World.block_lt_of_cell? w _ hw110_1)).trans hw110_1), ((HB.out.cell (World.block_lt_of_cell? w _ hw111_0)).trans hw111_0), ((HB.out.cell (World.block_lt_of_cell? w _ hw111_1)).trans hw111_1)⟩ (fun hHeld => ?_); clear hK K; refine norm_ (a' := ?_) ?_ ?_
               rotate_left
               ·show Act.put _ (some 39) _ = _
                simp only [Act.put, List.setIfInBounds_toArray, List.set_cons_zero, List.set_cons_succ, i64_w, i32_w]; rfl
               refine pure_ (i := 20) (N := some 40) (v := ?_) (a' := ?_) #[y_,y_,y_,y_,y_,y_,y_,y_,y_,y_,y_,y_,y_,y_,y_,y_,y_,y_,y_,y_,y_,n_] rfl rfl (any_of HT_.out (by kernel_rfl)) (fun _ _ _ h => h) (Or.inl ⟨by rfl, ?_⟩) ?_ ?_
               rotate_left
               ·intro w'; go_simp; with_reducible rfl
               rotate_left
               ·simp only [Act.put, List.setIfInBounds_toArray, List.set_cons_zero, List.set_cons_succ, i64_w, i32_w]; rfl
               refine pure_ (i := 21) (N := some 41) (v := ?_) (a' := ?_) #[y_,y_,y_,y_,y_,y_,y_,y_,y_,y_,y_,y_,y_,y_,y_,y_,y_,y_,y_,y_,y_,y_] rfl rfl (any_of HT_.out (by kernel_rfl)) (fun _ _ _ h => h) (Or.inl ⟨by rfl, ?_⟩) ?_ ?_
               rotate_left
               ·intro w'; go_simp; with_reducible rfl
               rotate_left
               ·simp only [Act.put, List.setIfInBounds_toArray, List.set_cons_zero, List.set_cons_succ, i64_w, i32_w]; rfl
               refine done_ (done_of HT_.out (by kernel_rfl)) ?_; have hcz43_0 : w42.cell? ⟨gb103, 0, none⟩ = some (.int .i64 ((rd_T38 l0 x15_1).f0)) := (blk_cell BK103.out 0).trans rfl; have hcz43_1 : w42.cell? ⟨gb103, 1, none⟩ = some (.int .i64 ((rd_T38 l0 x15_1).f1)) := (blk_cell BK103.out 1).trans rfl; have hfz43_0 := blk_frozen BK103.out 0; have hfz43_1 := blk_frozen BK103.out 1
               try go_wp2_with (first | ((with_reducible refine gate_builtin (b := .append) (xs := #[.tmp 42, .tmp 44]) rfl ?_); at_builtin; refine Kd.R_append k38 (w0 := w) w.heap.size rfl (.tmp 42) (.tmp 44) 24 38 (.agg #[(.int .i64 0), (.int .i64 0)]) 16 rfl Try.underlying24 info38 rfl (by decide) (by omega) u3 x3_1 (⟨(rd_T38 l0 x15_1).f0, (rd_T38 l0 x15_1).f1⟩ : S38) [.int .i64 ((rd_T38 l0 x15_1).f0), .int .i64 ((rd_T38 l0 x15_1).f1)] (fun k_ => k_ ≠ gb103) (fun _ => False) rfl rfl ?aP (fun _ hk => hk.elim) ?aF ?aO ?aB ?aS ?aL ?_; (case aP => exact k38_mkM _ _ _ (⟨(rd_T38 l0 x15_1).f0, (rd_T38 l0 x15_1).f1⟩ : S38)); (case aB => exact (by repeat (first | (with_reducible first | exact HB.out | apply below_alloc | apply pw_below_drewN | apply below_drew1 | refine below_set ?_ GE103.out) | exact HB.out))); (case aF => exact (fun k_ hk => Kd.freshB (g := gb103) (o := .cells #[.int .i64 ((rd_T38 l0 x15_1).f0), .int .i64 ((rd_T38 l0 x15_1).f1)] 38 (0, 0)) (by (with_reducible repeat (first | refine blk_drewN ?_ _ | refine blk_drew ?_ | refine blk_alloc ?_ _)); exact BK103.out) k_ hk)); (case aO => exact (by (with_reducible repeat (first | apply Kd.R_alloc | apply Kd.R_drewN | apply Kd.R_drew)); exact HO_3.out)); (case aS => exact (below_size (by repeat (first | (with_reducible first | exact HB.out | apply below_alloc | apply pw_below_drewN | apply below_drew1 | refine below_set ?_ GE103.out) | exact HB.out)))); (case aL => have := LMc37.out; omega); intro v114 w44 ho hb hg hat; rw [← Ny113.out] at ho; have n0_ := Aside0.mk (blk_grown (g := gb103) (o := .cells #[.int .i64 ((rd_T38 l0 x15_1).f0), .int .i64 ((rd_T38 l0 x15_1).f1)] 38 (0, 0)) (by (with_reducible repeat (first | refine blk_drewN ?_ _ | refine blk_drew ?_ | refine blk_alloc ?_ _)); exact BK103.out) hg (Kd.R_away HO_3.out (fun _ hk => hk))); have n1_ := Aside0.mk (hb); have n2_ := Aside0.mk (ho); clear BK103; clear HB; clear HO_3; have BK103 := n0_; have HB := n1_; have HO115 := n2_; clear n0_ n1_ n2_; clear ho hb hg hat))
               go_roundg k1
               case measure => have := HK1.out; omega
               case rel => exact ⟨(y113), (ji27), (by first | rfl | (simp; done) | (simp only [← hji27] <;> (first | rfl | simp)) | (simp [*]; done)), H', ⟨by have := HK1.out; omega⟩, ⟨by (with_reducible repeat (first | apply Kd.R_alloc | apply Kd.R_drewN | apply Kd.R_drew)); exact Kd.R_mono HO115.out (fun _ hk => trivial)⟩, ⟨by repeat (first | (with_reducible first | exact HB.out | apply below_alloc | apply pw_below_drewN | apply below_drew1 | refine below_set ?_ GE103.out) | exact HB.out)⟩⟩
              ·rw [if_neg c37] at H; exact absurd H (by simp)
            ·rw [if_neg c29] at H; exact absurd H (by simp)
           ·rw [if_neg c28] at H; exact absurd H (by simp)
          ·rw [if_neg c26] at H; exact absurd H (by simp)
         ·rw [if_neg c25] at H; exact absurd H (by simp)
      ·rw [if_neg c7] at H; exact absurd H (by simp)
     ·rw [if_neg c6] at H; exact absurd H (by simp)
    ·rw [if_neg c5] at H
     have c5b0 : decide (x15_1 < (l0.length : Int)) = false := decide_eq_false c5; clear c5; obtain rfl := Option.some.inj H; go_wp2; go_ret
     exact ⟨_, by first | rfl | (simp [errW_none, errW_some] <;> rfl) | (simp [*, errW_none, errW_some] <;> rfl), by (with_reducible repeat (first | apply Kd.R_alloc | apply Kd.R_drewN | apply Kd.R_drew)); exact HO_3.out, by repeat (first | (with_reducible first | exact HB.out | apply below_alloc | apply pw_below_drewN | apply below_drew1) | exact HB.out)⟩
 ·replace c3 := Bool.eq_false_iff.mpr c3
  subst c3
  have H1 : (some ([] : List (S38))) = some r := by rw [if_neg (show ¬ (false = true) by decide)] at H; exact H
  clear H; have H := H1; clear H1; obtain rfl := Option.some.inj H; go_enter Try.func12, Try.ntmps12; go_wp2_with (first | ((with_reducible refine gate_callee (f := 30) rfl ?_); refine goesL_ (some 8) rfl rfl Try.func30 (by kernel_rfl) rfl #[.slice A0 l0.length c0] rfl (by (try simp only [List.map_toArray, List.map_cons, List.map_nil]); first | done | rfl | (simp only [List.length_drop, List.length_take]; rfl)) ?_; (with_reducible refine (impl_isPath.calls k _ _ l0 false _ ?side1 ?side2 A2.out).mono ?_); (case side1 => repeat (first | exact HR0.out | (with_reducible refine Kd.C_alloc ?_ _) | (with_reducible refine Kd.C_drewN ?_ _) | (with_reducible refine Kd.C_drew ?_))); (case side2 => exact HC0.out); rintro e w45 ⟨rfl, hb⟩; refine ⟨_, rfl, ?_⟩; have n0_ := Aside0.mk (below_step (by repeat (first | (with_reducible first | exact HB.out | apply below_alloc | apply pw_below_drewN | apply below_drew1) | exact HB.out)) hb); clear HB; have HB := n0_; clear n0_; (try clear hb); (try clear hb2); (try clear hk); (try clear hi))); go_ret
  exact ⟨_, by first | rfl | (simp [errW_none, errW_some] <;> rfl) | (simp [*, errW_none, errW_some] <;> rfl), by first | exact Kd.R_nil _ _ _ _ _ | exact Kd.N_nil _ _ _ _ _ | exact Kd.V_nil _ _ _ _ _ | exact Kd.Q_nil _ _ _ _ _ | exact Kd.S_nil _ _ _ _ _, by repeat (first | (with_reducible first | exact HB.out | apply below_alloc | apply pw_below_drewN | apply below_drew1) | exact HB.out)⟩

end Go.Proofs.Ytdacpdhpifocbaa.P

namespace Go.Proofs.Ytdacpdhpifocbaa.P
open Go.RowKit Go.Proofs.YtdacpdhpifocbaaW.PrintWords Go.Proofs.YtdacpdhpifocbaaW.PrintLast Go.Proofs.YtdacpdhpifocbaaW.PrintMore
attribute [local go_sem] max2_int min2_int max_two min_two max_three min_three max_four min_four   -- for this text's walks alone
set_option linter.unusedVariables false
set_option linter.unusedSimpArgs false

/-! ### impl_toward: function 34 -/
def impl_toward.f (a0 : Int) (a1 : Int) : Option (Int) := if a0 < a1 then (some 1) else (if a0 > a1 then (some (-1)) else (some 0))
set_option maxHeartbeats 8000000 in
set_option maxRecDepth 100000 in
theorem impl_toward.calls (a0 : Int) (a1 : Int) (r : Int) (w : World) (h : impl_toward.f a0 a1 = some r) :
    Calls Try.prog 34 #[.int .i64 a0, .int .i64 a1] w fun e w' => e = .returned (.int .i64 r) ∧ Drawn0 w w' := by
  have H : (if a0 < a1 then (some 1) else (if a0 > a1 then (some (-1)) else (some 0))) = some r := h
  clear h
  by_cases c3 : a0 < a1
  · rw [if_pos c3] at H
    have c3b0 : decide (a0 < a1) = true := decide_eq_true c3
    clear c3
    obtain rfl := Option.some.inj H
    go_enter Try.func34, Try.ntmps34
    go_wp2
    go_ret
    exact ⟨by first | rfl | (simp; done) | (simp [*]; done), by repeat (first | exact Drawn0.refl _ | apply Drawn0.step)⟩
  · rw [if_neg c3] at H
    have c3b0 : decide (a0 < a1) = false := decide_eq_false c3
    clear c3
    by_cases c4 : a0 > a1
    · rw [if_pos c4] at H
      have c4b0 : decide (a1 < a0) = true := decide_eq_true c4
      clear c4
      obtain rfl := Option.some.inj H
      go_enter Try.func34, Try.ntmps34
      go_wp2
      go_ret
      exact ⟨by first | rfl | (simp; done) | (simp [*]; done), by repeat (first | exact Drawn0.refl _ | apply Drawn0.step)⟩
    · rw [if_neg c4] at H
      have c4b0 : decide (a1 < a0) = false := decide_eq_false c4
      clear c4
      obtain rfl := Option.some.inj H
      go_enter Try.func34, Try.ntmps34
      go_wp2
      go_ret
      exact ⟨by first | rfl | (simp; done) | (simp [*]; done), by repeat (first | exact Drawn0.refl _ | apply Drawn0.step)⟩

end Go.Proofs.Ytdacpdhpifocbaa.P

namespace Go.Proofs.Ytdacpdhpifocbaa.P
open Go.RowKit Go.Proofs.YtdacpdhpifocbaaW.PrintWords Go.Proofs.YtdacpdhpifocbaaW.PrintLast Go.Proofs.YtdacpdhpifocbaaW.PrintMore
attribute [local go_sem] max2_int min2_int max_two min_two max_three min_three max_four min_four   -- for this text's walks alone
set_option linter.unusedVariables false
set_option linter.unusedSimpArgs false

attribute [local go_sem high] eqA38
/-! ### impl_CodeStay: function 17 -/
mutual
def impl_CodeStay.j0 : Nat → List (S38) → Bool → Option ((List (S38)) × Bool)
  | 0, _, _ => none
  | k + 1, x0, x24 => if x24 = true then (some (([] : List (S38)), false)) else (if 0 < (x0.length : Int) then (if 1 ≤ (x0.length : Int) then ((some (x0.drop 1 : List (S38))).bind fun y108 => (impl_CodeStay.l0 k (([(⟨(rd_T38 x0 0).f0, (rd_T38 x0 0).f1⟩ : S38)] : List (S38))) y108 (y108.length : Int) 0 ((rd_T38 x0 0).f0) ((rd_T38 x0 0).f1))) else (none)) else (none))
def impl_CodeStay.l0 : Nat → List (S38) → List (S38) → Int → Int → Int → Int → Option ((List (S38)) × Bool)
  | 0, _, _, _, _, _, _ => none
  | k + 1, x5, x31, x32, x33, x105000, x105001 => if x33 < x32 then (if 0 ≤ x33 then (if x33 < (x31.length : Int) then ((impl_PtOk.f ((rd_T38 x31 x33).f0) ((rd_T38 x31 x33).f1)).bind fun t115 => (if t115 = true then (if (((rd_T38 x31 x33).f0) == x105000 && (((rd_T38 x31 x33).f1) == x105001)) = true then (impl_CodeStay.j2 k x5 x31 x32 x33 true x105000 x105001 ((rd_T38 x31 x33).f0) ((rd_T38 x31 x33).f1)) else (if ((rd_T38 x31 x33).f0) = x105000 then (impl_CodeStay.j2 k x5 x31 x32 x33 false x105000 x105001 ((rd_T38 x31 x33).f0) ((rd_T38 x31 x33).f1)) else (impl_CodeStay.j2 k x5 x31 x32 x33 (((rd_T38 x31 x33).f1) != x105001) x105000 x105001 ((rd_T38 x31 x33).f0) ((rd_T38 x31 x33).f1)))) else (impl_CodeStay.j2 k x5 x31 x32 x33 true x105000 x105001 ((rd_T38 x31 x33).f0) ((rd_T38 x31 x33).f1)))) else (none)) else (none)) else ((impl_isPath.f k x5).bind fun t112 => (if t112 = true then (some (x5, true)) else (some (([] : List (S38)), false))))
def impl_CodeStay.j2 : Nat → List (S38) → List (S38) → Int → Int → Bool → Int → Int → Int → Int → Option ((List (S38)) × Bool)
  | 0, _, _, _, _, _, _, _, _, _ => none
  | k + 1, x5, x31, x32, x33, x58, x105000, x105001, x115000, x115001 => if x58 = true then (some (([] : List (S38)), false)) else ((impl_toward.f x105000 x115000).bind fun t116 => ((impl_toward.f x105001 x115001).bind fun t117 => (impl_CodeStay.l1 k x5 t116 t117 x31 x32 x33 x105000 x105001 x115000 x115001)))
def impl_CodeStay.l1 : Nat → List (S38) → Int → Int → List (S38) → Int → Int → Int → Int → Int → Int → Option ((List (S38)) × Bool)
  | 0, _, _, _, _, _, _, _, _, _, _ => none
  | k + 1, x5, x8, x9, x31, x32, x33, x105000, x105001, x115000, x115001 => if (!(x105000 == x115000) || (!(x105001 == x115001))) = true then (if x5.length < 8796093022208 then (impl_CodeStay.l1 k (x5 ++ [(⟨wrap64 (x105000 + x8), wrap64 (x105001 + x9)⟩ : S38)]) x8 x9 x31 x32 x33 (wrap64 (x105000 + x8)) (wrap64 (x105001 + x9)) x115000 x115001) else (none)) else (impl_CodeStay.l0 k x5 x31 x32 (wrap64 (x33 + 1)) x105000 x105001)
end
def impl_CodeStay.f (k : Nat) (l0 : List (S38)) : Option ((List (S38)) × Bool) := if (l0.length : Int) < 1 then (impl_CodeStay.j0 k l0 true) else (if (l0.length : Int) > 400 then (impl_CodeStay.j0 k l0 true) else (if 0 < (l0.length : Int) then ((impl_PtOk.f ((rd_T38 l0 0).f0) ((rd_T38 l0 0).f1)).bind fun t102 => (impl_CodeStay.j0 k l0 (!t102))) else (none)))
theorem impl_CodeStay.mono_l : ∀ k, (∀ y0 y1, LeO (impl_CodeStay.j0 k y0 y1) (impl_CodeStay.j0 (k + 1) y0 y1)) ∧ (∀ y0 y1 y2 y3 y4 y5, LeO (impl_CodeStay.l0 k y0 y1 y2 y3 y4 y5) (impl_CodeStay.l0 (k + 1) y0 y1 y2 y3 y4 y5)) ∧ (∀ y0 y1 y2 y3 y4 y5 y6 y7 y8, LeO (impl_CodeStay.j2 k y0 y1 y2 y3 y4 y5 y6 y7 y8) (impl_CodeStay.j2 (k + 1) y0 y1 y2 y3 y4 y5 y6 y7 y8)) ∧ (∀ y0 y1 y2 y3 y4 y5 y6 y7 y8 y9, LeO (impl_CodeStay.l1 k y0 y1 y2 y3 y4 y5 y6 y7 y8 y9) (impl_CodeStay.l1 (k + 1) y0 y1 y2 y3 y4 y5 y6 y7 y8 y9))
  | 0 => ⟨fun _ _ r h => by simp [impl_CodeStay.j0] at h, fun _ _ _ _ _ _ r h => by simp [impl_CodeStay.l0] at h, fun _ _ _ _ _ _ _ _ _ r h => by simp [impl_CodeStay.j2] at h, fun _ _ _ _ _ _ _ _ _ _ r h => by simp [impl_CodeStay.l1] at h⟩
  | k + 1 => by
    obtain ⟨ih0, ih1, ih2, ih3⟩ := impl_CodeStay.mono_l k
    refine ⟨?_, ?_, ?_, ?_⟩
    · intro y0 y1
      unfold impl_CodeStay.j0
      repeat' first
      | (with_reducible exact ih0 _ _)
      | (with_reducible exact ih1 _ _ _ _ _ _)
      | (with_reducible exact ih2 _ _ _ _ _ _ _ _ _)
      | (with_reducible exact ih3 _ _ _ _ _ _ _ _ _ _)
      | (with_reducible exact impl_isPath.mono _ _)
      | (with_reducible exact LeO.refl _)
      | (with_reducible exact LeO.none _)
      | (with_reducible refine LeO.ite ?_ ?_)
      | (with_reducible refine LeO.bind ?_ (fun _ => ?_))
      | exact ih0 _ _
      | exact ih1 _ _ _ _ _ _
      | exact ih2 _ _ _ _ _ _ _ _ _
      | exact ih3 _ _ _ _ _ _ _ _ _ _
      | exact impl_isPath.mono _ _
      | exact LeO.none _
      | refine LeO.ite ?_ ?_
      | refine LeO.bind ?_ (fun _ => ?_)
    · intro y0 y1 y2 y3 y4 y5
      unfold impl_CodeStay.l0
      repeat' first
      | (with_reducible exact ih0 _ _)
      | (with_reducible exact ih1 _ _ _ _ _ _)
      | (with_reducible exact ih2 _ _ _ _ _ _ _ _ _)
      | (with_reducible exact ih3 _ _ _ _ _ _ _ _ _ _)
      | (with_reducible exact impl_isPath.mono _ _)
      | (with_reducible exact LeO.refl _)
      | (with_reducible exact LeO.none _)
      | (with_reducible refine LeO.ite ?_ ?_)
      | (with_reducible refine LeO.bind ?_ (fun _ => ?_))
      | exact ih0 _ _
      | exact ih1 _ _ _ _ _ _
      | exact ih2 _ _ _ _ _ _ _ _ _
      | exact ih3 _ _ _ _ _ _ _ _ _ _
      | exact impl_isPath.mono _ _
      | exact LeO.none _
      | refine LeO.ite ?_ ?_
      | refine LeO.bind ?_ (fun _ => ?_)
    · intro y0 y1 y2 y3 y4 y5 y6 y7 y8
      unfold impl_CodeStay.j2
      repeat' first
      | (with_reducible exact ih0 _ _)
      | (with_reducible exact ih1 _ _ _ _ _ _)
      | (with_reducible exact ih2 _ _ _ _ _ _ _ _ _)
      | (with_reducible exact ih3 _ _ _ _ _ _ _ _ _ _)
      | (with_reducible exact impl_isPath.mono _ _)
      | (with_reducible exact LeO.refl _)
      | (with_reducible exact LeO.none _)
      | (with_reducible refine LeO.ite ?_ ?_)
      | (with_reducible refine LeO.bind ?_ (fun _ => ?_))
      | exact ih0 _ _
      | exact ih1 _ _ _ _ _ _
      | exact ih2 _ _ _ _ _ _ _ _ _
      | exact ih3 _ _ _ _ _ _ _ _ _ _
      | exact impl_isPath.mono _ _
      | exact LeO.none _
      | refine LeO.ite ?_ ?_
      | refine LeO.bind ?_ (fun _ => ?_)
    · intro y0 y1 y2 y3 y4 y5 y6 y7 y8 y9
      unfold impl_CodeStay.l1
      repeat' first
      | (with_reducible exact ih0 _ _)
      | (with_reducible exact ih1 _ _ _ _ _ _)
      | (with_reducible exact ih2 _ _ _ _ _ _ _ _ _)
      | (with_reducible exact ih3 _ _ _ _ _ _ _ _ _ _)
      | (with_reducible exact impl_isPath.mono _ _)
      | (with_reducible exact LeO.refl _)
      | (with_reducible exact LeO.none _)
      | (with_reducible refine LeO.ite ?_ ?_)
      | (with_reducible refine LeO.bind ?_ (fun _ => ?_))
      | exact ih0 _ _
      | exact ih1 _ _ _ _ _ _
      | exact ih2 _ _ _ _ _ _ _ _ _
      | exact ih3 _ _ _ _ _ _ _ _ _ _
      | exact impl_isPath.mono _ _
      | exact LeO.none _
      | refine LeO.ite ?_ ?_
      | refine LeO.bind ?_ (fun _ => ?_)
theorem impl_CodeStay.mono : ∀ a0 k, LeO (impl_CodeStay.f k a0) (impl_CodeStay.f (k + 1) a0) := by
  intro a0 k
  obtain ⟨ih0, ih1, ih2, ih3⟩ := impl_CodeStay.mono_l k
  unfold impl_CodeStay.f
  repeat' first
      | (with_reducible exact ih0 _ _)
      | (with_reducible exact ih1 _ _ _ _ _ _)
      | (with_reducible exact ih2 _ _ _ _ _ _ _ _ _)
      | (with_reducible exact ih3 _ _ _ _ _ _ _ _ _ _)
      | (with_reducible exact impl_isPath.mono _ _)
      | (with_reducible exact LeO.refl _)
      | (with_reducible exact LeO.none _)
      | (with_reducible refine LeO.ite ?_ ?_)
      | (with_reducible refine LeO.bind ?_ (fun _ => ?_))
      | exact ih0 _ _
      | exact ih1 _ _ _ _ _ _
      | exact ih2 _ _ _ _ _ _ _ _ _
      | exact ih3 _ _ _ _ _ _ _ _ _ _
      | exact impl_isPath.mono _ _
      | exact LeO.none _
      | refine LeO.ite ?_ ?_
      | refine LeO.bind ?_ (fun _ => ?_)
set_option maxHeartbeats 8000000 in
set_option maxRecDepth 100000 in
theorem impl_CodeStay.calls (k : Nat) (A0 : Option Addr) (c0 : Nat) (l0 : List (S38)) (r1 : List (S38)) (r2 : Bool) (w : World) (hr0 : Kd.C k38 w A0 l0.length l0) (hc0 : l0.length ≤ c0) (h : impl_CodeStay.f k l0 = some (r1, r2)) :
  Calls Try.prog 17 #[.slice A0 l0.length c0] w fun e w' => ∃ v0_ : Value, e = .returned (.tuple #[v0_, .bool r2]) ∧ Kd.R k38 38 w' w.heap.size (fun _ => True) v0_ r1 ∧ Below w.heap.size w w' := by
 have hu38 := Try.underlying38; have HR0 := Aside0.mk hr0; have HC0 := Aside0.mk hc0; clear hr0 hc0; have HB := Aside0.mk (Below.refl w.heap.size w); have H : (if (l0.length : Int) < 1 then (impl_CodeStay.j0 k l0 true) else (if (l0.length : Int) > 400 then (impl_CodeStay.j0 k l0 true) else (if 0 < (l0.length : Int) then ((impl_PtOk.f ((rd_T38 l0 0).f0) ((rd_T38 l0 0).f1)).bind fun t102 => (impl_CodeStay.j0 k l0 (!t102))) else (none)))) = some (r1, r2) := h; clear h; have HC2 := Aside0.mk H; clear H; go_enter Try.func17, Try.ntmps17; go_upto_region 1 with (fail)
 repeat (go_quiet (fail); go_upto_region 1 with (fail))
 go_cut [24] (fun v24 wc => ∃ (kq : Nat) (x24_1 : Bool), v24 = .bool x24_1 ∧ Aside0 (impl_CodeStay.j0 kq l0 x24_1 = some (r1, r2)) ∧ Aside0 (kq ≤ k) ∧ Aside0 (Below w.heap.size w wc))
 case first =>
  have H := HC2.out; clear HC2
  by_cases c3 : (l0.length : Int) < 1
  ·rw [if_pos c3] at H
   have c3b0 : decide ((l0.length : Int) < 1) = true := decide_eq_true c3; have c3b1 : decide (l0.length < 1) = true := decide_eq_true (by omega); clear c3; (first | rw [c3b0] | (simp only [i64_w, i32_w]; rw [c3b0]) | skip); have H' := Aside0.mk H; clear H; go_wp2
   repeat (go_quiet (fail); try go_wp2)
   go_meet
   case rel => exact ⟨_, (true), (by first | rfl | (simp; done) | (simp [*]; done)), H', ⟨by first | omega | exact Nat.le_refl _⟩, ⟨by repeat (first | (with_reducible first | exact HB.out | apply below_alloc | apply pw_below_drewN | apply below_drew1) | exact HB.out)⟩⟩
  ·rw [if_neg c3] at H
   have c3b0 : decide ((l0.length : Int) < 1) = false := decide_eq_false c3; have c3b1 : decide (l0.length < 1) = false := decide_eq_false (by omega); clear c3; (first | rw [c3b0] | (simp only [i64_w, i32_w]; rw [c3b0]) | skip)
   by_cases c4 : (l0.length : Int) > 400
   ·rw [if_pos c4] at H
    have c4b0 : decide (400 < (l0.length : Int)) = true := decide_eq_true c4; have c4b1 : decide (400 < l0.length) = true := decide_eq_true (by omega); clear c4; have H' := Aside0.mk H; clear H; go_wp2
    repeat (go_quiet (fail); try go_wp2)
    go_meet
    case rel => exact ⟨_, (true), (by first | rfl | (simp; done) | (simp [*]; done)), H', ⟨by first | omega | exact Nat.le_refl _⟩, ⟨by repeat (first | (with_reducible first | exact HB.out | apply below_alloc | apply pw_below_drewN | apply below_drew1) | exact HB.out)⟩⟩
   ·rw [if_neg c4] at H
    have c4b0 : decide (400 < (l0.length : Int)) = false := decide_eq_false c4; have c4b1 : decide (400 < l0.length) = false := decide_eq_false (by omega); clear c4
    by_cases c5 : 0 < (l0.length : Int)
    ·rw [if_pos c5] at H
     have c5b0 : decide (0 < (l0.length : Int)) = true := decide_eq_true c5; have c5b1 : decide (0 < l0.length) = true := decide_eq_true (by omega); clear c5; replace H := Option.bind_eq_some_iff.mp H; obtain ⟨t102, A60, H⟩ := H; replace H : (impl_CodeStay.j0 k l0 (!t102)) = some (r1, r2) := H; have A6 := Aside0.mk A60; clear A60; have H' := Aside0.mk H; clear H; have p101 : 0 ≤ (0 : Int) := (by omega); have q101 : 0 < (l0.length : Int) := of_decide_eq_true (by first | (with_reducible assumption) | assumption); obtain ⟨ad101, e101, hx101_0, hx101_1⟩ := at_T38 HR0.out 0 p101 q101
     cases e101
     have qi101 : (0 < l0.length) = True := eq_true (by omega); (try rw [show ((0 : Int)).toNat = 0 from rfl] at hx101_0); (try rw [show 0 * 2 = 0 from rfl] at hx101_0); (try rw [Addr.add_zero'] at hx101_0); (try rw [show ((0 : Int)).toNat = 0 from rfl] at hx101_1); (try rw [show 0 * 2 = 0 from rfl] at hx101_1); (try rw [Addr.add_zero'] at hx101_1); replace hx101_0 := (HB.out.cell (World.block_lt_of_cell? w _ hx101_0)).trans hx101_0; replace hx101_1 := (HB.out.cell (World.block_lt_of_cell? w _ hx101_1)).trans hx101_1; replace p101 := eq_true p101; replace q101 := eq_true q101; go_wp2_with (first | (go_at_call 23; (with_reducible refine (impl_PtOk.calls ((rd_T38 l0 0).f0) ((rd_T38 l0 0).f1) t102 _ A6.out).mono ?_); rintro e w7 ⟨rfl, hb⟩; have n0_ := Aside0.mk (below_step (by repeat (first | (with_reducible first | exact HB.out | apply below_alloc | apply pw_below_drewN | apply below_drew1) | exact HB.out)) hb); clear HB; have HB := n0_; clear n0_; (try clear hb); (try clear hb2); (try clear hk); (try clear hi)))
     repeat (go_quiet (first | (go_at_call 23; (with_reducible refine (impl_PtOk.calls ((rd_T38 l0 0).f0) ((rd_T38 l0 0).f1) t102 _ A6.out).mono ?_); rintro e w7 ⟨rfl, hb⟩; have n0_ := Aside0.mk (below_step (by repeat (first | (with_reducible first | exact HB.out | apply below_alloc | apply pw_below_drewN | apply below_drew1) | exact HB.out)) hb); clear HB; have HB := n0_; clear n0_; (try clear hb); (try clear hb2); (try clear hk); (try clear hi))); try go_wp2_with (first | (go_at_call 23; (with_reducible refine (impl_PtOk.calls ((rd_T38 l0 0).f0) ((rd_T38 l0 0).f1) t102 _ A6.out).mono ?_); rintro e w7 ⟨rfl, hb⟩; have n0_ := Aside0.mk (below_step (by repeat (first | (with_reducible first | exact HB.out | apply below_alloc | apply pw_below_drewN | apply below_drew1) | exact HB.out)) hb); clear HB; have HB := n0_; clear n0_; (try clear hb); (try clear hb2); (try clear hk); (try clear hi))))
     go_meet
     case rel => exact ⟨_, (!t102), (by first | rfl | (simp; done) | (simp [*]; done)), H', ⟨by first | omega | exact Nat.le_refl _⟩, ⟨by repeat (first | (with_reducible first | exact HB.out | apply below_alloc | apply pw_below_drewN | apply below_drew1) | exact HB.out)⟩⟩
    ·rw [if_neg c5] at H; exact absurd H (by simp)
 case rest =>
  clear HC2
  try clear c1
  try clear p1
  try clear q1
  try clear hx1
  try clear qi1
  try clear p2
  try clear c3
  try clear c3b0
  try clear c3b1
  try clear c4
  try clear c4b0
  try clear c4b1
  try clear c5
  try clear c5b0
  try clear c5b1
  try clear hx101_0
  try clear hx101_1
  try clear p101
  try clear q101
  obtain ⟨kq, x24_1, rfl, HA, HJ1, HB⟩ := hcut
  cases kq with
  | zero => exact absurd HA.out (by simp [impl_CodeStay.j0])
  | succ kj1 =>
   have H := HA.out; clear HA; simp only [impl_CodeStay.j0] at H
   by_cases c8 : x24_1 = true
   ·subst c8
    have H1 : (some (([] : List (S38)), false)) = some (r1, r2) := by rw [if_pos rfl] at H; exact H
    clear H; have H := H1; clear H1; simp only [Option.some.injEq, Prod.mk.injEq] at H; obtain ⟨rfl, rfl⟩ := H; go_wp2
    repeat (go_quiet (fail); try go_wp2)
    go_ret2
    exact ⟨_, by first | rfl | (simp [errW_none, errW_some] <;> rfl) | (simp [*, errW_none, errW_some] <;> rfl), by first | exact Kd.R_nil _ _ _ _ _ | exact Kd.N_nil _ _ _ _ _ | exact Kd.V_nil _ _ _ _ _ | exact Kd.Q_nil _ _ _ _ _ | exact Kd.S_nil _ _ _ _ _, by repeat (first | (with_reducible first | exact HB.out | apply below_alloc | apply pw_below_drewN | apply below_drew1) | exact HB.out)⟩
   ·replace c8 := Bool.eq_false_iff.mpr c8
    subst c8
    have H1 : (if 0 < (l0.length : Int) then (if 1 ≤ (l0.length : Int) then ((some (l0.drop 1 : List (S38))).bind fun y108 => (impl_CodeStay.l0 kj1 (([(⟨(rd_T38 l0 0).f0, (rd_T38 l0 0).f1⟩ : S38)] : List (S38))) y108 (y108.length : Int) 0 ((rd_T38 l0 0).f0) ((rd_T38 l0 0).f1))) else (none)) else (none)) = some (r1, r2) := by rw [if_neg (show ¬ (false = true) by decide)] at H; exact H
    clear H; have H := H1; clear H1
    by_cases c9 : 0 < (l0.length : Int)
    ·rw [if_pos c9] at H
     have c9b0 : decide (0 < (l0.length : Int)) = true := decide_eq_true c9; have c9b1 : decide (0 < l0.length) = true := decide_eq_true (by omega); clear c9; obtain ⟨y105, hy105⟩ : ∃ y_ : List (S38), y_ = (([(⟨(rd_T38 l0 0).f0, (rd_T38 l0 0).f1⟩ : S38)] : List (S38))) := ⟨_, rfl⟩
     replace H : (if 1 ≤ (l0.length : Int) then ((some (l0.drop 1 : List (S38))).bind fun y108 => (impl_CodeStay.l0 kj1 y105 y108 (y108.length : Int) 0 ((rd_T38 l0 0).f0) ((rd_T38 l0 0).f1))) else (none)) = some (r1, r2) := by first | (rw [hy105]; with_reducible exact H) | (have H2_ := (Option.bind_some _ _).symm.trans H; rw [hy105]; with_reducible exact H2_) | (have H2_ := (Option.bind_some _ _).symm.trans H; with_reducible exact H2_) | with_reducible exact H | (rw [hy105]; exact H) | exact H
     have Ny105 := Aside0.mk hy105; clear hy105
     by_cases c10 : 1 ≤ (l0.length : Int)
     ·rw [if_pos c10] at H
      have c10b0 := eq_true c10; have c10b1 : decide (1 ≤ (l0.length : Int)) = true := decide_eq_true c10; clear c10; obtain ⟨y108, hy108⟩ : ∃ y_ : List (S38), y_ = (l0.drop 1) := ⟨_, rfl⟩
      replace H : (impl_CodeStay.l0 kj1 y105 y108 (y108.length : Int) 0 ((rd_T38 l0 0).f0) ((rd_T38 l0 0).f1)) = some (r1, r2) := by first | (rw [hy108]; with_reducible exact H) | (have H2_ := (Option.bind_some _ _).symm.trans H; rw [hy108]; with_reducible exact H2_) | (have H2_ := (Option.bind_some _ _).symm.trans H; with_reducible exact H2_) | with_reducible exact H | (rw [hy108]; exact H) | exact H
      have Ny108 := Aside0.mk hy108; clear hy108; have H' := Aside0.mk H; clear H; have p103 : 0 ≤ (0 : Int) := (by omega); have q103 : 0 < (l0.length : Int) := of_decide_eq_true (by first | (with_reducible assumption) | assumption); obtain ⟨ad103, e103, hx103_0, hx103_1⟩ := at_T38 HR0.out 0 p103 q103
      cases e103
      have qi103 : (0 < l0.length) = True := eq_true (by omega); (try rw [show ((0 : Int)).toNat = 0 from rfl] at hx103_0); (try rw [show 0 * 2 = 0 from rfl] at hx103_0); (try rw [Addr.add_zero'] at hx103_0); (try rw [show ((0 : Int)).toNat = 0 from rfl] at hx103_1); (try rw [show 0 * 2 = 0 from rfl] at hx103_1); (try rw [Addr.add_zero'] at hx103_1); replace hx103_0 := (HB.out.cell (World.block_lt_of_cell? w _ hx103_0)).trans hx103_0; replace hx103_1 := (HB.out.cell (World.block_lt_of_cell? w _ hx103_1)).trans hx103_1; replace p103 := eq_true p103; replace q103 := eq_true q103; go_wp2_with (first | ((with_reducible refine gate_dst (N := 4) rfl ?_); (try (refine gate_guard (by rfl) ?_; dsimp only)); refine box_event ?hg (N := 4) ?hd (cs := #[.int .i64 0, .int .i64 0]) (t := 38) ?hr ?_; (case hd => rfl); (case hg => rfl); (case hr => first | (go_simp; done) | (go_simp; rfl)); intro gb104 hg w11 hbox hb; have n0_ := Aside0.mk (below_step (by repeat (first | (with_reducible first | exact HB.out | apply below_alloc | apply pw_below_drewN | apply below_drew1) | exact HB.out)) hb); have n1_ := Aside0.mk (hbox); have n2_ := Aside0.mk ((by rw [hg]; exact (below_size (by repeat (first | (with_reducible first | exact HB.out | apply below_alloc | apply pw_below_drewN | apply below_drew1) | exact HB.out))) : w.heap.size ≤ gb104)); have n3_ := Aside0.mk ((by rw [hg]; exact (below_size (by repeat (first | (with_reducible first | exact HB.out | apply below_alloc | apply pw_below_drewN | apply below_drew1) | exact HB.out))) : w.heap.size ≤ gb104)); clear HB; have HB := n0_; have BK104 := n1_; have GW104 := n2_; have GE104 := n3_; clear n0_ n1_ n2_ n3_; clear hb hbox hg; have hcz12_0 : w11.cell? ⟨gb104, 0, none⟩ = some (.int .i64 0) := (blk_cell BK104.out 0).trans rfl; have hcz12_1 : w11.cell? ⟨gb104, 1, none⟩ = some (.int .i64 0) := (blk_cell BK104.out 1).trans rfl; have hfz12_0 := blk_frozen BK104.out 0; have hfz12_1 := blk_frozen BK104.out 1) | ((with_reducible refine gate_dst (N := 29) rfl ?_); (try (refine gate_guard (by rfl) ?_; dsimp only)); refine Kd.R_lit k38 _ 38 ?hg (N := 29) ?hd (xs := ([(⟨(rd_T38 l0 0).f0, (rd_T38 l0 0).f1⟩ : S38)] : List (S38))) (inner := [.int .i64 ((rd_T38 l0 0).f0), .int .i64 ((rd_T38 l0 0).f1)]) (ok := fun _ => True) (okp := fun _ => True) ?hr ?hp (fun _ hk => hk) trivial (Below.refl _ _) (Nat.le_refl _) (by simp) ?_; (case hd => rfl); (case hg => rfl); (case hr => first | (go_simp; done) | (go_simp; rfl)); (case hp => exact (Reps.c2 (show Kd.M k38 _ _ _ (⟨(rd_T38 l0 0).f0, (rd_T38 l0 0).f1⟩ : S38) [.int .i64 ((rd_T38 l0 0).f0), .int .i64 ((rd_T38 l0 0).f1)] from (k38_mkM _ _ _ (⟨(rd_T38 l0 0).f0, (rd_T38 l0 0).f1⟩ : S38) )) (Reps.none _ _))); intro v106 w13 ho14 hb hg_ hnew_; clear hg_ hnew_; (first | rw [← Ny105.out] at ho14 | (simp only [Int.reduceToNat] at ho14; rw [← Ny105.out] at ho14)); have n0_ := Aside0.mk (Kd.R_lower (Kd.R_newB ho14 (g := gb104) (o := .cells #[.int .i64 ((rd_T38 l0 0).f0), .int .i64 ((rd_T38 l0 0).f1)] 38 (0, 0)) (by (with_reducible repeat (first | refine blk_drewN ?_ _ | refine blk_drew ?_ | refine blk_alloc ?_ _)); refine blk_put (cs := #[.int .i64 ((rd_T38 l0 0).f0), .int .i64 0]) ?_ 1 _ rfl; (with_reducible repeat (first | refine blk_drewN ?_ _ | refine blk_drew ?_ | refine blk_alloc ?_ _)); refine blk_put (cs := #[.int .i64 0, .int .i64 0]) ?_ 0 _ rfl; (with_reducible repeat (first | refine blk_drewN ?_ _ | refine blk_drew ?_ | refine blk_alloc ?_ _)); exact BK104.out)) (below_size (by repeat (first | (with_reducible first | exact HB.out | apply below_alloc | apply pw_below_drewN | apply below_drew1 | refine below_set ?_ GE104.out) | exact HB.out)))); have n1_ := Aside0.mk (blk_below (g := gb104) (o := .cells #[.int .i64 ((rd_T38 l0 0).f0), .int .i64 ((rd_T38 l0 0).f1)] 38 (0, 0)) (by (with_reducible repeat (first | refine blk_drewN ?_ _ | refine blk_drew ?_ | refine blk_alloc ?_ _)); refine blk_put (cs := #[.int .i64 ((rd_T38 l0 0).f0), .int .i64 0]) ?_ 1 _ rfl; (with_reducible repeat (first | refine blk_drewN ?_ _ | refine blk_drew ?_ | refine blk_alloc ?_ _)); refine blk_put (cs := #[.int .i64 0, .int .i64 0]) ?_ 0 _ rfl; (with_reducible repeat (first | refine blk_drewN ?_ _ | refine blk_drew ?_ | refine blk_alloc ?_ _)); exact BK104.out) hb); have n2_ := Aside0.mk (below_step (by repeat (first | (with_reducible first | exact HB.out | apply below_alloc | apply pw_below_drewN | apply below_drew1 | refine below_set ?_ GE104.out) | exact HB.out)) hb); clear BK104; clear HB; have HO107 := n0_; have BK104 := n1_; have HB := n2_; clear n0_ n1_ n2_; clear hb ho14; have q15 : (1 : Int) ≤ ((l0.length : Int) : Int) := of_decide_eq_true (by first | (with_reducible assumption) | assumption); obtain ⟨i015, hi015, _, hsz15, _⟩ := info_parts info38; have hroom15 : l0.length ≤ c0 := HC0.out; have hC15 : Kd.C k38 _ (some ad103) l0.length l0 := HR0.out; have hcut15 := cut_from (P := Try.prog) 24 38 .i64 Try.underlying24 hi015 2 hsz15 (some ad103) l0.length c0 1 (by omega) q15; have hr15 := Kd.C_drop (m := (1 : Int).toNat) (c := c0) hC15 (by omega) hroom15; obtain ⟨A15, hA15⟩ : ∃ A1, A1 = (if c0 = (1 : Int).toNat then (some ad103) else ((some ad103) : Option Addr).map (·.add ((1 : Int).toNat * 2))) := ⟨_, rfl⟩; obtain ⟨c15, hc15⟩ : ∃ c1, c1 = c0 - (1 : Int).toNat := ⟨_, rfl⟩; have hy15 : y108.length = l0.length - (1 : Int).toNat := (by rw [Ny108.out, List.length_drop] <;> omega); rw [show (l0).drop (1 : Int).toNat = y108 from Ny108.out.symm] at hr15; replace hr15 : Kd.C k38 _ A15 y108.length y108 := (by rw [hA15]; exact hr15); rw [← hy15, ← hA15, ← hc15] at hcut15; have HR111 := Aside0.mk hr15; have HC111 := Aside0.mk (show y108.length ≤ c15 from by rw [hy15, hc15]; exact Nat.sub_le_sub_right hroom15 _); clear hr15 hC15 hroom15 hi015 hsz15 hc15; have KY15 := Aside0.mk hy15; have KA15 := Aside0.mk hA15; clear hy15 hA15; replace q15 := eq_true q15))
      repeat (go_quiet (first | ((with_reducible refine gate_dst (N := 4) rfl ?_); (try (refine gate_guard (by rfl) ?_; dsimp only)); refine box_event ?hg (N := 4) ?hd (cs := #[.int .i64 0, .int .i64 0]) (t := 38) ?hr ?_; (case hd => rfl); (case hg => rfl); (case hr => first | (go_simp; done) | (go_simp; rfl)); intro gb104 hg w11 hbox hb; have n0_ := Aside0.mk (below_step (by repeat (first | (with_reducible first | exact HB.out | apply below_alloc | apply pw_below_drewN | apply below_drew1) | exact HB.out)) hb); have n1_ := Aside0.mk (hbox); have n2_ := Aside0.mk ((by rw [hg]; exact (below_size (by repeat (first | (with_reducible first | exact HB.out | apply below_alloc | apply pw_below_drewN | apply below_drew1) | exact HB.out))) : w.heap.size ≤ gb104)); have n3_ := Aside0.mk ((by rw [hg]; exact (below_size (by repeat (first | (with_reducible first | exact HB.out | apply below_alloc | apply pw_below_drewN | apply below_drew1) | exact HB.out))) : w.heap.size ≤ gb104)); clear HB; have HB := n0_; have BK104 := n1_; have GW104 := n2_; have GE104 := n3_; clear n0_ n1_ n2_ n3_; clear hb hbox hg; have hcz12_0 : w11.cell? ⟨gb104, 0, none⟩ = some (.int .i64 0) := (blk_cell BK104.out 0).trans rfl; have hcz12_1 : w11.cell? ⟨gb104, 1, none⟩ = some (.int .i64 0) := (blk_cell BK104.out 1).trans rfl; have hfz12_0 := blk_frozen BK104.out 0; have hfz12_1 := blk_frozen BK104.out 1) | ((with_reducible refine gate_dst (N := 29) rfl ?_); (try (refine gate_guard (by rfl) ?_; dsimp only)); refine Kd.R_lit k38 _ 38 ?hg (N := 29) ?hd (xs := ([(⟨(rd_T38 l0 0).f0, (rd_T38 l0 0).f1⟩ : S38)] : List (S38))) (inner := [.int .i64 ((rd_T38 l0 0).f0), .int .i64 ((rd_T38 l0 0).f1)]) (ok := fun _ => True) (okp := fun _ => True) ?hr ?hp (fun _ hk => hk) trivial (Below.refl _ _) (Nat.le_refl _) (by simp) ?_; (case hd => rfl); (case hg => rfl); (case hr => first | (go_simp; done) | (go_simp; rfl)); (case hp => exact (Reps.c2 (show Kd.M k38 _ _ _ (⟨(rd_T38 l0 0).f0, (rd_T38 l0 0).f1⟩ : S38) [.int .i64 ((rd_T38 l0 0).f0), .int .i64 ((rd_T38 l0 0).f1)] from (k38_mkM _ _ _ (⟨(rd_T38 l0 0).f0, (rd_T38 l0 0).f1⟩ : S38) )) (Reps.none _ _))); intro v106 w13 ho14 hb hg_ hnew_; clear hg_ hnew_; (first | rw [← Ny105.out] at ho14 | (simp only [Int.reduceToNat] at ho14; rw [← Ny105.out] at ho14)); have n0_ := Aside0.mk (Kd.R_lower (Kd.R_newB ho14 (g := gb104) (o := .cells #[.int .i64 ((rd_T38 l0 0).f0), .int .i64 ((rd_T38 l0 0).f1)] 38 (0, 0)) (by (with_reducible repeat (first | refine blk_drewN ?_ _ | refine blk_drew ?_ | refine blk_alloc ?_ _)); refine blk_put (cs := #[.int .i64 ((rd_T38 l0 0).f0), .int .i64 0]) ?_ 1 _ rfl; (with_reducible repeat (first | refine blk_drewN ?_ _ | refine blk_drew ?_ | refine blk_alloc ?_ _)); refine blk_put (cs := #[.int .i64 0, .int .i64 0]) ?_ 0 _ rfl; (with_reducible repeat (first | refine blk_drewN ?_ _ | refine blk_drew ?_ | refine blk_alloc ?_ _)); exact BK104.out)) (below_size (by repeat (first | (with_reducible first | exact HB.out | apply below_alloc | apply pw_below_drewN | apply below_drew1 | refine below_set ?_ GE104.out) | exact HB.out)))); have n1_ := Aside0.mk (blk_below (g := gb104) (o := .cells #[.int .i64 ((rd_T38 l0 0).f0), .int .i64 ((rd_T38 l0 0).f1)] 38 (0, 0)) (by (with_reducible repeat (first | refine blk_drewN ?_ _ | refine blk_drew ?_ | refine blk_alloc ?_ _)); refine blk_put (cs := #[.int .i64 ((rd_T38 l0 0).f0), .int .i64 0]) ?_ 1 _ rfl; (with_reducible repeat (first | refine blk_drewN ?_ _ | refine blk_drew ?_ | refine blk_alloc ?_ _)); refine blk_put (cs := #[.int .i64 0, .int .i64 0]) ?_ 0 _ rfl; (with_reducible repeat (first | refine blk_drewN ?_ _ | refine blk_drew ?_ | refine blk_alloc ?_ _)); exact BK104.out) hb); have n2_ := Aside0.mk (below_step (by repeat (first | (with_reducible first | exact HB.out | apply below_alloc | apply pw_below_drewN | apply below_drew1 | refine below_set ?_ GE104.out) | exact HB.out)) hb); clear BK104; clear HB; have HO107 := n0_; have BK104 := n1_; have HB := n2_; clear n0_ n1_ n2_; clear hb ho14; have q15 : (1 : Int) ≤ ((l0.length : Int) : Int) := of_decide_eq_true (by first | (with_reducible assumption) | assumption); obtain ⟨i015, hi015, _, hsz15, _⟩ := info_parts info38; have hroom15 : l0.length ≤ c0 := HC0.out; have hC15 : Kd.C k38 _ (some ad103) l0.length l0 := HR0.out; have hcut15 := cut_from (P := Try.prog) 24 38 .i64 Try.underlying24 hi015 2 hsz15 (some ad103) l0.length c0 1 (by omega) q15; have hr15 := Kd.C_drop (m := (1 : Int).toNat) (c := c0) hC15 (by omega) hroom15; obtain ⟨A15, hA15⟩ : ∃ A1, A1 = (if c0 = (1 : Int).toNat then (some ad103) else ((some ad103) : Option Addr).map (·.add ((1 : Int).toNat * 2))) := ⟨_, rfl⟩; obtain ⟨c15, hc15⟩ : ∃ c1, c1 = c0 - (1 : Int).toNat := ⟨_, rfl⟩; have hy15 : y108.length = l0.length - (1 : Int).toNat := (by rw [Ny108.out, List.length_drop] <;> omega); rw [show (l0).drop (1 : Int).toNat = y108 from Ny108.out.symm] at hr15; replace hr15 : Kd.C k38 _ A15 y108.length y108 := (by rw [hA15]; exact hr15); rw [← hy15, ← hA15, ← hc15] at hcut15; have HR111 := Aside0.mk hr15; have HC111 := Aside0.mk (show y108.length ≤ c15 from by rw [hy15, hc15]; exact Nat.sub_le_sub_right hroom15 _); clear hr15 hC15 hroom15 hi015 hsz15 hc15; have KY15 := Aside0.mk hy15; have KA15 := Aside0.mk hA15; clear hy15 hA15; replace q15 := eq_true q15)); try go_wp2_with (first | ((with_reducible refine gate_dst (N := 4) rfl ?_); (try (refine gate_guard (by rfl) ?_; dsimp only)); refine box_event ?hg (N := 4) ?hd (cs := #[.int .i64 0, .int .i64 0]) (t := 38) ?hr ?_; (case hd => rfl); (case hg => rfl); (case hr => first | (go_simp; done) | (go_simp; rfl)); intro gb104 hg w11 hbox hb; have n0_ := Aside0.mk (below_step (by repeat (first | (with_reducible first | exact HB.out | apply below_alloc | apply pw_below_drewN | apply below_drew1) | exact HB.out)) hb); have n1_ := Aside0.mk (hbox); have n2_ := Aside0.mk ((by rw [hg]; exact (below_size (by repeat (first | (with_reducible first | exact HB.out | apply below_alloc | apply pw_below_drewN | apply below_drew1) | exact HB.out))) : w.heap.size ≤ gb104)); have n3_ := Aside0.mk ((by rw [hg]; exact (below_size (by repeat (first | (with_reducible first | exact HB.out | apply below_alloc | apply pw_below_drewN | apply below_drew1) | exact HB.out))) : w.heap.size ≤ gb104)); clear HB; have HB := n0_; have BK104 := n1_; have GW104 := n2_; have GE104 := n3_; clear n0_ n1_ n2_ n3_; clear hb hbox hg; have hcz12_0 : w11.cell? ⟨gb104, 0, none⟩ = some (.int .i64 0) := (blk_cell BK104.out 0).trans rfl; have hcz12_1 : w11.cell? ⟨gb104, 1, none⟩ = some (.int .i64 0) := (blk_cell BK104.out 1).trans rfl; have hfz12_0 := blk_frozen BK104.out 0; have hfz12_1 := blk_frozen BK104.out 1) | ((with_reducible refine gate_dst (N := 29) rfl ?_); (try (refine gate_guard (by rfl) ?_; dsimp only)); refine Kd.R_lit k38 _ 38 ?hg (N := 29) ?hd (xs := ([(⟨(rd_T38 l0 0).f0, (rd_T38 l0 0).f1⟩ : S38)] : List (S38))) (inner := [.int .i64 ((rd_T38 l0 0).f0), .int .i64 ((rd_T38 l0 0).f1)]) (ok := fun _ => True) (okp := fun _ => True) ?hr ?hp (fun _ hk => hk) trivial (Below.refl _ _) (Nat.le_refl _) (by simp) ?_; (case hd => rfl); (case hg => rfl); (case hr => first | (go_simp; done) | (go_simp; rfl)); (case hp => exact (Reps.c2 (show Kd.M k38 _ _ _ (⟨(rd_T38 l0 0).f0, (rd_T38 l0 0).f1⟩ : S38) [.int .i64 ((rd_T38 l0 0).f0), .int .i64 ((rd_T38 l0 0).f1)] from (k38_mkM _ _ _ (⟨(rd_T38 l0 0).f0, (rd_T38 l0 0).f1⟩ : S38) )) (Reps.none _ _))); intro v106 w13 ho14 hb hg_ hnew_; clear hg_ hnew_; (first | rw [← Ny105.out] at ho14 | (simp only [Int.reduceToNat] at ho14; rw [← Ny105.out] at ho14)); have n0_ := Aside0.mk (Kd.R_lower (Kd.R_newB ho14 (g := gb104) (o := .cells #[.int .i64 ((rd_T38 l0 0).f0), .int .i64 ((rd_T38 l0 0).f1)] 38 (0, 0)) (by (with_reducible repeat (first | refine blk_drewN ?_ _ | refine blk_drew ?_ | refine blk_alloc ?_ _)); refine blk_put (cs := #[.int .i64 ((rd_T38 l0 0).f0), .int .i64 0]) ?_ 1 _ rfl; (with_reducible repeat (first | refine blk_drewN ?_ _ | refine blk_drew ?_ | refine blk_alloc ?_ _)); refine blk_put (cs := #[.int .i64 0, .int .i64 0]) ?_ 0 _ rfl; (with_reducible repeat (first | refine blk_drewN ?_ _ | refine blk_drew ?_ | refine blk_alloc ?_ _)); exact BK104.out)) (below_size (by repeat (first | (with_reducible first | exact HB.out | apply below_alloc | apply pw_below_drewN | apply below_drew1 | refine below_set ?_ GE104.out) | exact HB.out)))); have n1_ := Aside0.mk (blk_below (g := gb104) (o := .cells #[.int .i64 ((rd_T38 l0 0).f0), .int .i64 ((rd_T38 l0 0).f1)] 38 (0, 0)) (by (with_reducible repeat (first | refine blk_drewN ?_ _ | refine blk_drew ?_ | refine blk_alloc ?_ _)); refine blk_put (cs := #[.int .i64 ((rd_T38 l0 0).f0), .int .i64 0]) ?_ 1 _ rfl; (with_reducible repeat (first | refine blk_drewN ?_ _ | refine blk_drew ?_ | refine blk_alloc ?_ _)); refine blk_put (cs := #[.int .i64 0, .int .i64 0]) ?_ 0 _ rfl; (with_reducible repeat (first | refine blk_drewN ?_ _ | refine blk_drew ?_ | refine blk_alloc ?_ _)); exact BK104.out) hb); have n2_ := Aside0.mk (below_step (by repeat (first | (with_reducible first | exact HB.out | apply below_alloc | apply pw_below_drewN | apply below_drew1 | refine below_set ?_ GE104.out) | exact HB.out)) hb); clear BK104; clear HB; have HO107 := n0_; have BK104 := n1_; have HB := n2_; clear n0_ n1_ n2_; clear hb ho14; have q15 : (1 : Int) ≤ ((l0.length : Int) : Int) := of_decide_eq_true (by first | (with_reducible assumption) | assumption); obtain ⟨i015, hi015, _, hsz15, _⟩ := info_parts info38; have hroom15 : l0.length ≤ c0 := HC0.out; have hC15 : Kd.C k38 _ (some ad103) l0.length l0 := HR0.out; have hcut15 := cut_from (P := Try.prog) 24 38 .i64 Try.underlying24 hi015 2 hsz15 (some ad103) l0.length c0 1 (by omega) q15; have hr15 := Kd.C_drop (m := (1 : Int).toNat) (c := c0) hC15 (by omega) hroom15; obtain ⟨A15, hA15⟩ : ∃ A1, A1 = (if c0 = (1 : Int).toNat then (some ad103) else ((some ad103) : Option Addr).map (·.add ((1 : Int).toNat * 2))) := ⟨_, rfl⟩; obtain ⟨c15, hc15⟩ : ∃ c1, c1 = c0 - (1 : Int).toNat := ⟨_, rfl⟩; have hy15 : y108.length = l0.length - (1 : Int).toNat := (by rw [Ny108.out, List.length_drop] <;> omega); rw [show (l0).drop (1 : Int).toNat = y108 from Ny108.out.symm] at hr15; replace hr15 : Kd.C k38 _ A15 y108.length y108 := (by rw [hA15]; exact hr15); rw [← hy15, ← hA15, ← hc15] at hcut15; have HR111 := Aside0.mk hr15; have HC111 := Aside0.mk (show y108.length ≤ c15 from by rw [hy15, hc15]; exact Nat.sub_le_sub_right hroom15 _); clear hr15 hC15 hroom15 hi015 hsz15 hc15; have KY15 := Aside0.mk hy15; have KA15 := Aside0.mk hA15; clear hy15 hA15; replace q15 := eq_true q15)))
      go_loopg [5, 33] kj1 (fun kq v5 v33 w' => ∃ (x5_2 : List (S38)) (x33_2 : Int) (x105000_2 : Int) (x105001_2 : Int), v33 = .int .i64 x33_2 ∧ Aside0 (impl_CodeStay.l0 kq x5_2 y108 (y108.length : Int) x33_2 x105000_2 x105001_2 = some (r1, r2)) ∧ Aside0 (kq ≤ kj1) ∧ Aside0 (Kd.R k38 38 w' w.heap.size (fun k_ => k_ ≠ gb104) v5 x5_2) ∧ Aside0 (w'.heap[gb104]? = some (.cells #[.int .i64 x105000_2, .int .i64 x105001_2] 38 (0, 0))) ∧ Aside0 (Below w.heap.size w w'))
      case atStart => exact ⟨(y105), (0), ((rd_T38 l0 0).f0), ((rd_T38 l0 0).f1), (by first | rfl | (simp; done) | (simp [*]; done)), H', ⟨Nat.le_refl _⟩, ⟨by (with_reducible repeat (first | apply Kd.R_alloc | apply Kd.R_drewN | apply Kd.R_drew)); exact Kd.R_mono HO107.out (fun _ hk => hk.2)⟩, ⟨by (with_reducible repeat (first | refine blk_drewN ?_ _ | refine blk_drew ?_ | refine blk_alloc ?_ _)); exact BK104.out⟩, ⟨by repeat (first | (with_reducible first | exact HB.out | apply below_alloc | apply pw_below_drewN | apply below_drew1 | refine below_set ?_ GE104.out) | exact HB.out)⟩⟩
      case round =>
       clear H'
       try clear c1
       try clear p1
       try clear q1
       try clear hx1
       try clear qi1
       try clear c2
       try clear p2
       try clear c3
       try clear c3b0
       try clear c3b1
       try clear c4
       try clear c4b0
       try clear c4b1
       try clear c5
       try clear c5b0
       try clear c5b1
       try clear c8
       try clear c9
       try clear c9b0
       try clear c9b1
       try clear c10
       try clear c10b0
       try clear c10b1
       try clear p10
       try clear q10
       try clear hx10
       try clear qi10
       try clear c15
       try clear q15
       try clear hcz12_0
       try clear hcz12_1
       try clear hfz12_0
       try clear hfz12_1
       try clear hx101_0
       try clear hx101_1
       try clear hx103_0
       try clear hx103_1
       try clear p1
       try clear p101
       try clear p103
       try clear p2
       try clear q1
       try clear q101
       try clear q103
       try clear q15
       obtain ⟨x5_2, x33_2, x105000_2, x105001_2, rfl, HA, HK2, HO_5, BK104, HB⟩ := hrel
       cases gk with
       | zero => exact absurd HA.out (by simp [impl_CodeStay.l0])
       | succ k2 =>
        have H := HA.out; clear HA; simp only [impl_CodeStay.l0] at H
        by_cases c16 : x33_2 < (y108.length : Int)
        ·rw [if_pos c16] at H
         have c16b0 : decide (x33_2 < (y108.length : Int)) = true := decide_eq_true c16; clear c16
         by_cases c17 : 0 ≤ x33_2
         ·rw [if_pos c17] at H
          have c17b0 : decide (0 ≤ x33_2) = true := decide_eq_true c17; clear c17
          by_cases c18 : x33_2 < (y108.length : Int)
          ·rw [if_pos c18] at H
           have c18b0 : decide (x33_2 < (y108.length : Int)) = true := decide_eq_true c18; clear c18; have HC19 := Aside0.mk H; clear H; have p113 : 0 ≤ (x33_2 : Int) := of_decide_eq_true (by first | (with_reducible assumption) | assumption); have q113 : x33_2 < (y108.length : Int) := of_decide_eq_true (by first | (with_reducible assumption) | assumption); obtain ⟨ad113, e113, hx113_0, hx113_1⟩ := at_T38 HR111.out x33_2 p113 q113
           cases e113
           replace hx113_0 := (HB.out.cell (World.block_lt_of_cell? w _ hx113_0)).trans hx113_0; replace hx113_1 := (HB.out.cell (World.block_lt_of_cell? w _ hx113_1)).trans hx113_1; replace p113 := eq_true p113; replace q113 := eq_true q113; go_upto_region 8 with (first | ((with_reducible refine gate_dst (N := 7) rfl ?_); (try (refine gate_guard (by rfl) ?_; dsimp only)); refine box_event ?hg (N := 7) ?hd (cs := #[.int .i64 0, .int .i64 0]) (t := 38) ?hr ?_; (case hd => rfl); (case hg => rfl); (case hr => first | (go_simp; done) | (go_simp; rfl)); intro gb114 hg w20 hbox hb; have n0_ := Aside0.mk (Kd.R_below (Kd.R_elderB (by (with_reducible repeat (first | apply Kd.R_alloc | apply Kd.R_drewN | apply Kd.R_drew)); exact HO_5.out) gb114 (Nat.le_of_eq hg.symm)) hb); have n1_ := Aside0.mk (blk_below (g := gb104) (o := .cells #[.int .i64 x105000_2, .int .i64 x105001_2] 38 (0, 0)) (by (with_reducible repeat (first | refine blk_drewN ?_ _ | refine blk_drew ?_ | refine blk_alloc ?_ _)); exact BK104.out) hb); have n2_ := Aside0.mk (below_step (by repeat (first | (with_reducible first | exact HB.out | apply below_alloc | apply pw_below_drewN | apply below_drew1 | refine below_set ?_ GE104.out) | exact HB.out)) hb); have n3_ := Aside0.mk (hbox); have n4_ := Aside0.mk ((by rw [hg]; exact (below_size (by repeat (first | (with_reducible first | exact HB.out | apply below_alloc | apply pw_below_drewN | apply below_drew1 | refine below_set ?_ GE104.out) | exact HB.out))) : w.heap.size ≤ gb114)); have n5_ := Aside0.mk ((by rw [hg]; exact (below_size (by repeat (first | (with_reducible first | exact HB.out | apply below_alloc | apply pw_below_drewN | apply below_drew1 | refine below_set ?_ GE104.out) | exact HB.out))) : w.heap.size ≤ gb114)); have n6_ := Aside0.mk ((by rw [hg]; exact Nat.ne_of_lt (blk_lt (g := gb104) (o := .cells #[.int .i64 x105000_2, .int .i64 x105001_2] 38 (0, 0)) (by (with_reducible repeat (first | refine blk_drewN ?_ _ | refine blk_drew ?_ | refine blk_alloc ?_ _)); exact BK104.out)) : gb104 ≠ gb114)); have n7_ := Aside0.mk ((by rw [hg]; exact Nat.ne_of_gt (blk_lt (g := gb104) (o := .cells #[.int .i64 x105000_2, .int .i64 x105001_2] 38 (0, 0)) (by (with_reducible repeat (first | refine blk_drewN ?_ _ | refine blk_drew ?_ | refine blk_alloc ?_ _)); exact BK104.out)) : gb114 ≠ gb104)); clear HO_5; clear BK104; clear HB; have HO_5 := n0_; have BK104 := n1_; have HB := n2_; have BK114 := n3_; have GW114 := n4_; have GE114 := n5_; have NB104_114 := n6_; have NB114_104 := n7_; clear n0_ n1_ n2_ n3_ n4_ n5_ n6_ n7_; clear hb hbox hg; have hnb21 := NB114_104.out; have hnc21 := NB104_114.out; have hcz22_0 : w20.cell? ⟨gb114, 0, none⟩ = some (.int .i64 0) := (blk_cell BK114.out 0).trans rfl; have hcz22_1 : w20.cell? ⟨gb114, 1, none⟩ = some (.int .i64 0) := (blk_cell BK114.out 1).trans rfl; have hfz22_0 := blk_frozen BK114.out 0; have hfz22_1 := blk_frozen BK114.out 1))
           repeat (go_quiet (first | ((with_reducible refine gate_dst (N := 7) rfl ?_); (try (refine gate_guard (by rfl) ?_; dsimp only)); refine box_event ?hg (N := 7) ?hd (cs := #[.int .i64 0, .int .i64 0]) (t := 38) ?hr ?_; (case hd => rfl); (case hg => rfl); (case hr => first | (go_simp; done) | (go_simp; rfl)); intro gb114 hg w20 hbox hb; have n0_ := Aside0.mk (Kd.R_below (Kd.R_elderB (by (with_reducible repeat (first | apply Kd.R_alloc | apply Kd.R_drewN | apply Kd.R_drew)); exact HO_5.out) gb114 (Nat.le_of_eq hg.symm)) hb); have n1_ := Aside0.mk (blk_below (g := gb104) (o := .cells #[.int .i64 x105000_2, .int .i64 x105001_2] 38 (0, 0)) (by (with_reducible repeat (first | refine blk_drewN ?_ _ | refine blk_drew ?_ | refine blk_alloc ?_ _)); exact BK104.out) hb); have n2_ := Aside0.mk (below_step (by repeat (first | (with_reducible first | exact HB.out | apply below_alloc | apply pw_below_drewN | apply below_drew1 | refine below_set ?_ GE104.out) | exact HB.out)) hb); have n3_ := Aside0.mk (hbox); have n4_ := Aside0.mk ((by rw [hg]; exact (below_size (by repeat (first | (with_reducible first | exact HB.out | apply below_alloc | apply pw_below_drewN | apply below_drew1 | refine below_set ?_ GE104.out) | exact HB.out))) : w.heap.size ≤ gb114)); have n5_ := Aside0.mk ((by rw [hg]; exact (below_size (by repeat (first | (with_reducible first | exact HB.out | apply below_alloc | apply pw_below_drewN | apply below_drew1 | refine below_set ?_ GE104.out) | exact HB.out))) : w.heap.size ≤ gb114)); have n6_ := Aside0.mk ((by rw [hg]; exact Nat.ne_of_lt (blk_lt (g := gb104) (o := .cells #[.int .i64 x105000_2, .int .i64 x105001_2] 38 (0, 0)) (by (with_reducible repeat (first | refine blk_drewN ?_ _ | refine blk_drew ?_ | refine blk_alloc ?_ _)); exact BK104.out)) : gb104 ≠ gb114)); have n7_ := Aside0.mk ((by rw [hg]; exact Nat.ne_of_gt (blk_lt (g := gb104) (o := .cells #[.int .i64 x105000_2, .int .i64 x105001_2] 38 (0, 0)) (by (with_reducible repeat (first | refine blk_drewN ?_ _ | refine blk_drew ?_ | refine blk_alloc ?_ _)); exact BK104.out)) : gb114 ≠ gb104)); clear HO_5; clear BK104; clear HB; have HO_5 := n0_; have BK104 := n1_; have HB := n2_; have BK114 := n3_; have GW114 := n4_; have GE114 := n5_; have NB104_114 := n6_; have NB114_104 := n7_; clear n0_ n1_ n2_ n3_ n4_ n5_ n6_ n7_; clear hb hbox hg; have hnb21 := NB114_104.out; have hnc21 := NB104_114.out; have hcz22_0 : w20.cell? ⟨gb114, 0, none⟩ = some (.int .i64 0) := (blk_cell BK114.out 0).trans rfl; have hcz22_1 : w20.cell? ⟨gb114, 1, none⟩ = some (.int .i64 0) := (blk_cell BK114.out 1).trans rfl; have hfz22_0 := blk_frozen BK114.out 0; have hfz22_1 := blk_frozen BK114.out 1)); go_upto_region 8 with (first | ((with_reducible refine gate_dst (N := 7) rfl ?_); (try (refine gate_guard (by rfl) ?_; dsimp only)); refine box_event ?hg (N := 7) ?hd (cs := #[.int .i64 0, .int .i64 0]) (t := 38) ?hr ?_; (case hd => rfl); (case hg => rfl); (case hr => first | (go_simp; done) | (go_simp; rfl)); intro gb114 hg w20 hbox hb; have n0_ := Aside0.mk (Kd.R_below (Kd.R_elderB (by (with_reducible repeat (first | apply Kd.R_alloc | apply Kd.R_drewN | apply Kd.R_drew)); exact HO_5.out) gb114 (Nat.le_of_eq hg.symm)) hb); have n1_ := Aside0.mk (blk_below (g := gb104) (o := .cells #[.int .i64 x105000_2, .int .i64 x105001_2] 38 (0, 0)) (by (with_reducible repeat (first | refine blk_drewN ?_ _ | refine blk_drew ?_ | refine blk_alloc ?_ _)); exact BK104.out) hb); have n2_ := Aside0.mk (below_step (by repeat (first | (with_reducible first | exact HB.out | apply below_alloc | apply pw_below_drewN | apply below_drew1 | refine below_set ?_ GE104.out) | exact HB.out)) hb); have n3_ := Aside0.mk (hbox); have n4_ := Aside0.mk ((by rw [hg]; exact (below_size (by repeat (first | (with_reducible first | exact HB.out | apply below_alloc | apply pw_below_drewN | apply below_drew1 | refine below_set ?_ GE104.out) | exact HB.out))) : w.heap.size ≤ gb114)); have n5_ := Aside0.mk ((by rw [hg]; exact (below_size (by repeat (first | (with_reducible first | exact HB.out | apply below_alloc | apply pw_below_drewN | apply below_drew1 | refine below_set ?_ GE104.out) | exact HB.out))) : w.heap.size ≤ gb114)); have n6_ := Aside0.mk ((by rw [hg]; exact Nat.ne_of_lt (blk_lt (g := gb104) (o := .cells #[.int .i64 x105000_2, .int .i64 x105001_2] 38 (0, 0)) (by (with_reducible repeat (first | refine blk_drewN ?_ _ | refine blk_drew ?_ | refine blk_alloc ?_ _)); exact BK104.out)) : gb104 ≠ gb114)); have n7_ := Aside0.mk ((by rw [hg]; exact Nat.ne_of_gt (blk_lt (g := gb104) (o := .cells #[.int .i64 x105000_2, .int .i64 x105001_2] 38 (0, 0)) (by (with_reducible repeat (first | refine blk_drewN ?_ _ | refine blk_drew ?_ | refine blk_alloc ?_ _)); exact BK104.out)) : gb114 ≠ gb104)); clear HO_5; clear BK104; clear HB; have HO_5 := n0_; have BK104 := n1_; have HB := n2_; have BK114 := n3_; have GW114 := n4_; have GE114 := n5_; have NB104_114 := n6_; have NB114_104 := n7_; clear n0_ n1_ n2_ n3_ n4_ n5_ n6_ n7_; clear hb hbox hg; have hnb21 := NB114_104.out; have hnc21 := NB104_114.out; have hcz22_0 : w20.cell? ⟨gb114, 0, none⟩ = some (.int .i64 0) := (blk_cell BK114.out 0).trans rfl; have hcz22_1 : w20.cell? ⟨gb114, 1, none⟩ = some (.int .i64 0) := (blk_cell BK114.out 1).trans rfl; have hfz22_0 := blk_frozen BK114.out 0; have hfz22_1 := blk_frozen BK114.out 1)))
           (try simp only [Act.put, List.setIfInBounds_toArray, List.set_cons_zero, List.set_cons_succ]); go_cut [58] (fun v58 wc => ∃ (kq : Nat) (x58_18 : Bool), v58 = .bool x58_18 ∧ Aside0 (impl_CodeStay.j2 kq x5_2 y108 (y108.length : Int) x33_2 x58_18 x105000_2 x105001_2 ((rd_T38 y108 x33_2).f0) ((rd_T38 y108 x33_2).f1) = some (r1, r2)) ∧ Aside0 (kq ≤ k2) ∧ Aside0 (Kd.R k38 38 wc w.heap.size (fun k_ => k_ ≠ gb104 ∧ k_ ≠ gb114) u5 x5_2) ∧ Aside0 (wc.heap[gb104]? = some (.cells #[.int .i64 x105000_2, .int .i64 x105001_2] 38 (0, 0))) ∧ Aside0 (wc.heap[gb114]? = some (.cells #[.int .i64 ((rd_T38 y108 x33_2).f0), .int .i64 ((rd_T38 y108 x33_2).f1)] 38 (0, 0))) ∧ Aside0 (Below w.heap.size w wc))
           case first =>
            have H := HC19.out; clear HC19; replace H := Option.bind_eq_some_iff.mp H; obtain ⟨t115, A230, H⟩ := H; replace H : (if t115 = true then (if (((rd_T38 y108 x33_2).f0) == x105000_2 && (((rd_T38 y108 x33_2).f1) == x105001_2)) = true then (impl_CodeStay.j2 k2 x5_2 y108 (y108.length : Int) x33_2 true x105000_2 x105001_2 ((rd_T38 y108 x33_2).f0) ((rd_T38 y108 x33_2).f1)) else (if ((rd_T38 y108 x33_2).f0) = x105000_2 then (impl_CodeStay.j2 k2 x5_2 y108 (y108.length : Int) x33_2 false x105000_2 x105001_2 ((rd_T38 y108 x33_2).f0) ((rd_T38 y108 x33_2).f1)) else (impl_CodeStay.j2 k2 x5_2 y108 (y108.length : Int) x33_2 (((rd_T38 y108 x33_2).f1) != x105001_2) x105000_2 x105001_2 ((rd_T38 y108 x33_2).f0) ((rd_T38 y108 x33_2).f1)))) else (impl_CodeStay.j2 k2 x5_2 y108 (y108.length : Int) x33_2 true x105000_2 x105001_2 ((rd_T38 y108 x33_2).f0) ((rd_T38 y108 x33_2).f1))) = some (r1, r2) := H; have A23 := Aside0.mk A230; clear A230
            by_cases c24 : t115 = true
            ·subst c24
             have H1 : (if (((rd_T38 y108 x33_2).f0) == x105000_2 && (((rd_T38 y108 x33_2).f1) == x105001_2)) = true then (impl_CodeStay.j2 k2 x5_2 y108 (y108.length : Int) x33_2 true x105000_2 x105001_2 ((rd_T38 y108 x33_2).f0) ((rd_T38 y108 x33_2).f1)) else (if ((rd_T38 y108 x33_2).f0) = x105000_2 then (impl_CodeStay.j2 k2 x5_2 y108 (y108.length : Int) x33_2 false x105000_2 x105001_2 ((rd_T38 y108 x33_2).f0) ((rd_T38 y108 x33_2).f1)) else (impl_CodeStay.j2 k2 x5_2 y108 (y108.length : Int) x33_2 (((rd_T38 y108 x33_2).f1) != x105001_2) x105000_2 x105001_2 ((rd_T38 y108 x33_2).f0) ((rd_T38 y108 x33_2).f1)))) = some (r1, r2) := by rw [if_pos rfl] at H; exact H
             clear H; have H := H1; clear H1
             by_cases c25 : (((rd_T38 y108 x33_2).f0) == x105000_2 && (((rd_T38 y108 x33_2).f1) == x105001_2)) = true
             ·rw [if_pos c25] at H
              have c25b0 : (((rd_T38 y108 x33_2).f0) == x105000_2 && (((rd_T38 y108 x33_2).f1) == x105001_2)) = true := c25; (try (have c25b1 : decide (((rd_T38 y108 x33_2).f0) = x105000_2 && (((rd_T38 y108 x33_2).f1) == x105001_2)) = true := by simpa using c25)); (try (have c25b2 : (((rd_T38 y108 x33_2).f0) == x105000_2 && (((rd_T38 y108 x33_2).f1) == x105001_2)) = true := by simpa using c25)); clear c25; (first | rw [c25b0] | (simp only [i64_w, i32_w]; rw [c25b0]) | skip); have H' := Aside0.mk H; clear H; have hnb26 := NB114_104.out; have hnc26 := NB104_114.out; have hcz27_0 : w20.cell? ⟨gb114, 0, none⟩ = some (.int .i64 0) := (blk_cell BK114.out 0).trans rfl; have hcz27_1 : w20.cell? ⟨gb114, 1, none⟩ = some (.int .i64 0) := (blk_cell BK114.out 1).trans rfl; have hfz27_0 := blk_frozen BK114.out 0; have hfz27_1 := blk_frozen BK114.out 1; go_wp2_with (first | (go_at_call 23; (with_reducible refine (impl_PtOk.calls ((rd_T38 y108 x33_2).f0) ((rd_T38 y108 x33_2).f1) true _ A23.out).mono ?_); rintro e w28 ⟨rfl, hb⟩; have n0_ := Aside0.mk (Kd.R_below (by (with_reducible repeat (first | apply Kd.R_alloc | apply Kd.R_drewN | apply Kd.R_drew)); exact (Kd.R_mono (Kd.R_far (p := ⟨gb114, 1, none⟩) (Kd.R_far (p := ⟨gb114, 0, none⟩) (Kd.R_mono HO_5.out (fun k_ hk => (⟨hk, hk.2⟩ : _ ∧ k_ ≠ gb114))) (fun _ hk => hk.2) (.int .i64 ((rd_T38 y108 x33_2).f0))) (fun _ hk => hk.2) (.int .i64 ((rd_T38 y108 x33_2).f1))) (fun _ h_ => h_.1))) hb); have n1_ := Aside0.mk (blk_below (g := gb104) (o := .cells #[.int .i64 x105000_2, .int .i64 x105001_2] 38 (0, 0)) (by (with_reducible repeat (first | refine blk_drewN ?_ _ | refine blk_drew ?_ | refine blk_alloc ?_ _)); refine blk_far ?_ NB104_114.out _; (with_reducible repeat (first | refine blk_drewN ?_ _ | refine blk_drew ?_ | refine blk_alloc ?_ _)); refine blk_far ?_ NB104_114.out _; (with_reducible repeat (first | refine blk_drewN ?_ _ | refine blk_drew ?_ | refine blk_alloc ?_ _)); exact BK104.out) hb); have n2_ := Aside0.mk (blk_below (g := gb114) (o := .cells #[.int .i64 ((rd_T38 y108 x33_2).f0), .int .i64 ((rd_T38 y108 x33_2).f1)] 38 (0, 0)) (by (with_reducible repeat (first | refine blk_drewN ?_ _ | refine blk_drew ?_ | refine blk_alloc ?_ _)); refine blk_put (cs := #[.int .i64 ((rd_T38 y108 x33_2).f0), .int .i64 0]) ?_ 1 _ rfl; (with_reducible repeat (first | refine blk_drewN ?_ _ | refine blk_drew ?_ | refine blk_alloc ?_ _)); refine blk_put (cs := #[.int .i64 0, .int .i64 0]) ?_ 0 _ rfl; (with_reducible repeat (first | refine blk_drewN ?_ _ | refine blk_drew ?_ | refine blk_alloc ?_ _)); exact BK114.out) hb); have n3_ := Aside0.mk (below_step (by repeat (first | (with_reducible first | exact HB.out | apply below_alloc | apply pw_below_drewN | apply below_drew1 | refine below_set ?_ GE104.out | refine below_set ?_ GE114.out) | exact HB.out)) hb); clear HO_5; clear BK104; clear BK114; clear HB; have HO_5 := n0_; have BK104 := n1_; have BK114 := n2_; have HB := n3_; clear n0_ n1_ n2_ n3_; (try clear hb); (try clear hb2); (try clear hk); (try clear hi); have hcz29_0 : w28.cell? ⟨gb114, 0, none⟩ = some (.int .i64 ((rd_T38 y108 x33_2).f0)) := (blk_cell BK114.out 0).trans rfl; have hcz29_1 : w28.cell? ⟨gb114, 1, none⟩ = some (.int .i64 ((rd_T38 y108 x33_2).f1)) := (blk_cell BK114.out 1).trans rfl; have hfz29_0 := blk_frozen BK114.out 0; have hfz29_1 := blk_frozen BK114.out 1; have hcz30_0 : w28.cell? ⟨gb104, 0, none⟩ = some (.int .i64 x105000_2) := (blk_cell BK104.out 0).trans rfl; have hcz30_1 : w28.cell? ⟨gb104, 1, none⟩ = some (.int .i64 x105001_2) := (blk_cell BK104.out 1).trans rfl; have hfz30_0 := blk_frozen BK104.out 0; have hfz30_1 := blk_frozen BK104.out 1))
              repeat (go_quiet (first | (go_at_call 23; (with_reducible refine (impl_PtOk.calls ((rd_T38 y108 x33_2).f0) ((rd_T38 y108 x33_2).f1) true _ A23.out).mono ?_); rintro e w28 ⟨rfl, hb⟩; have n0_ := Aside0.mk (Kd.R_below (by (with_reducible repeat (first | apply Kd.R_alloc | apply Kd.R_drewN | apply Kd.R_drew)); exact (Kd.R_mono (Kd.R_far (p := ⟨gb114, 1, none⟩) (Kd.R_far (p := ⟨gb114, 0, none⟩) (Kd.R_mono HO_5.out (fun k_ hk => (⟨hk, hk.2⟩ : _ ∧ k_ ≠ gb114))) (fun _ hk => hk.2) (.int .i64 ((rd_T38 y108 x33_2).f0))) (fun _ hk => hk.2) (.int .i64 ((rd_T38 y108 x33_2).f1))) (fun _ h_ => h_.1))) hb); have n1_ := Aside0.mk (blk_below (g := gb104) (o := .cells #[.int .i64 x105000_2, .int .i64 x105001_2] 38 (0, 0)) (by (with_reducible repeat (first | refine blk_drewN ?_ _ | refine blk_drew ?_ | refine blk_alloc ?_ _)); refine blk_far ?_ NB104_114.out _; (with_reducible repeat (first | refine blk_drewN ?_ _ | refine blk_drew ?_ | refine blk_alloc ?_ _)); refine blk_far ?_ NB104_114.out _; (with_reducible repeat (first | refine blk_drewN ?_ _ | refine blk_drew ?_ | refine blk_alloc ?_ _)); exact BK104.out) hb); have n2_ := Aside0.mk (blk_below (g := gb114) (o := .cells #[.int .i64 ((rd_T38 y108 x33_2).f0), .int .i64 ((rd_T38 y108 x33_2).f1)] 38 (0, 0)) (by (with_reducible repeat (first | refine blk_drewN ?_ _ | refine blk_drew ?_ | refine blk_alloc ?_ _)); refine blk_put (cs := #[.int .i64 ((rd_T38 y108 x33_2).f0), .int .i64 0]) ?_ 1 _ rfl; (with_reducible repeat (first | refine blk_drewN ?_ _ | refine blk_drew ?_ | refine blk_alloc ?_ _)); refine blk_put (cs := #[.int .i64 0, .int .i64 0]) ?_ 0 _ rfl; (with_reducible repeat (first | refine blk_drewN ?_ _ | refine blk_drew ?_ | refine blk_alloc ?_ _)); exact BK114.out) hb); have n3_ := Aside0.mk (below_step (by repeat (first | (with_reducible first | exact HB.out | apply below_alloc | apply pw_below_drewN | apply below_drew1 | refine below_set ?_ GE104.out | refine below_set ?_ GE114.out) | exact HB.out)) hb); clear HO_5; clear BK104; clear BK114; clear HB; have HO_5 := n0_; have BK104 := n1_; have BK114 := n2_; have HB := n3_; clear n0_ n1_ n2_ n3_; (try clear hb); (try clear hb2); (try clear hk); (try clear hi); have hcz29_0 : w28.cell? ⟨gb114, 0, none⟩ = some (.int .i64 ((rd_T38 y108 x33_2).f0)) := (blk_cell BK114.out 0).trans rfl; have hcz29_1 : w28.cell? ⟨gb114, 1, none⟩ = some (.int .i64 ((rd_T38 y108 x33_2).f1)) := (blk_cell BK114.out 1).trans rfl; have hfz29_0 := blk_frozen BK114.out 0; have hfz29_1 := blk_frozen BK114.out 1; have hcz30_0 : w28.cell? ⟨gb104, 0, none⟩ = some (.int .i64 x105000_2) := (blk_cell BK104.out 0).trans rfl; have hcz30_1 : w28.cell? ⟨gb104, 1, none⟩ = some (.int .i64 x105001_2) := (blk_cell BK104.out 1).trans rfl; have hfz30_0 := blk_frozen BK104.out 0; have hfz30_1 := blk_frozen BK104.out 1)); try go_wp2_with (first | (go_at_call 23; (with_reducible refine (impl_PtOk.calls ((rd_T38 y108 x33_2).f0) ((rd_T38 y108 x33_2).f1) true _ A23.out).mono ?_); rintro e w28 ⟨rfl, hb⟩; have n0_ := Aside0.mk (Kd.R_below (by (with_reducible repeat (first | apply Kd.R_alloc | apply Kd.R_drewN | apply Kd.R_drew)); exact (Kd.R_mono (Kd.R_far (p := ⟨gb114, 1, none⟩) (Kd.R_far (p := ⟨gb114, 0, none⟩) (Kd.R_mono HO_5.out (fun k_ hk => (⟨hk, hk.2⟩ : _ ∧ k_ ≠ gb114))) (fun _ hk => hk.2) (.int .i64 ((rd_T38 y108 x33_2).f0))) (fun _ hk => hk.2) (.int .i64 ((rd_T38 y108 x33_2).f1))) (fun _ h_ => h_.1))) hb); have n1_ := Aside0.mk (blk_below (g := gb104) (o := .cells #[.int .i64 x105000_2, .int .i64 x105001_2] 38 (0, 0)) (by (with_reducible repeat (first | refine blk_drewN ?_ _ | refine blk_drew ?_ | refine blk_alloc ?_ _)); refine blk_far ?_ NB104_114.out _; (with_reducible repeat (first | refine blk_drewN ?_ _ | refine blk_drew ?_ | refine blk_alloc ?_ _)); refine blk_far ?_ NB104_114.out _; (with_reducible repeat (first | refine blk_drewN ?_ _ | refine blk_drew ?_ | refine blk_alloc ?_ _)); exact BK104.out) hb); have n2_ := Aside0.mk (blk_below (g := gb114) (o := .cells #[.int .i64 ((rd_T38 y108 x33_2).f0), .int .i64 ((rd_T38 y108 x33_2).f1)] 38 (0, 0)) (by (with_reducible repeat (first | refine blk_drewN ?_ _ | refine blk_drew ?_ | refine blk_alloc ?_ _)); refine blk_put (cs := #[.int .i64 ((rd_T38 y108 x33_2).f0), .int .i64 0]) ?_ 1 _ rfl; (with_reducible repeat (first | refine blk_drewN ?_ _ | refine blk_drew ?_ | refine blk_alloc ?_ _)); refine blk_put (cs := #[.int .i64 0, .int .i64 0]) ?_ 0 _ rfl; (with_reducible repeat (first | refine blk_drewN ?_ _ | refine blk_drew ?_ | refine blk_alloc ?_ _)); exact BK114.out) hb); have n3_ := Aside0.mk (below_step (by repeat (first | (with_reducible first | exact HB.out | apply below_alloc | apply pw_below_drewN | apply below_drew1 | refine below_set ?_ GE104.out | refine below_set ?_ GE114.out) | exact HB.out)) hb); clear HO_5; clear BK104; clear BK114; clear HB; have HO_5 := n0_; have BK104 := n1_; have BK114 := n2_; have HB := n3_; clear n0_ n1_ n2_ n3_; (try clear hb); (try clear hb2); (try clear hk); (try clear hi); have hcz29_0 : w28.cell? ⟨gb114, 0, none⟩ = some (.int .i64 ((rd_T38 y108 x33_2).f0)) := (blk_cell BK114.out 0).trans rfl; have hcz29_1 : w28.cell? ⟨gb114, 1, none⟩ = some (.int .i64 ((rd_T38 y108 x33_2).f1)) := (blk_cell BK114.out 1).trans rfl; have hfz29_0 := blk_frozen BK114.out 0; have hfz29_1 := blk_frozen BK114.out 1; have hcz30_0 : w28.cell? ⟨gb104, 0, none⟩ = some (.int .i64 x105000_2) := (blk_cell BK104.out 0).trans rfl; have hcz30_1 : w28.cell? ⟨gb104, 1, none⟩ = some (.int .i64 x105001_2) := (blk_cell BK104.out 1).trans rfl; have hfz30_0 := blk_frozen BK104.out 0; have hfz30_1 := blk_frozen BK104.out 1)))
              go_meet
              case rel => exact ⟨_, (true), (by first | rfl | (simp; done) | (simp [*]; done)), H', ⟨by have := HJ1.out; have := HK2.out; first | omega | exact Nat.le_refl _⟩, ⟨by (with_reducible repeat (first | apply Kd.R_alloc | apply Kd.R_drewN | apply Kd.R_drew)); exact HO_5.out⟩, ⟨by (with_reducible repeat (first | refine blk_drewN ?_ _ | refine blk_drew ?_ | refine blk_alloc ?_ _)); exact BK104.out⟩, ⟨by (with_reducible repeat (first | refine blk_drewN ?_ _ | refine blk_drew ?_ | refine blk_alloc ?_ _)); exact BK114.out⟩, ⟨by repeat (first | (with_reducible first | exact HB.out | apply below_alloc | apply pw_below_drewN | apply below_drew1 | refine below_set ?_ GE104.out | refine below_set ?_ GE114.out) | exact HB.out)⟩⟩
             ·rw [if_neg c25] at H
              have c25b0 : (((rd_T38 y108 x33_2).f0) == x105000_2 && (((rd_T38 y108 x33_2).f1) == x105001_2)) = false := by simpa using c25
              (try (have c25b1 : decide (((rd_T38 y108 x33_2).f0) = x105000_2 && (((rd_T38 y108 x33_2).f1) == x105001_2)) = false := by simpa using c25)); (try (have c25b2 : (((rd_T38 y108 x33_2).f0) == x105000_2 && (((rd_T38 y108 x33_2).f1) == x105001_2)) = false := by simpa using c25)); (try (have c25b3 : ¬ (((rd_T38 y108 x33_2).f0) = x105000_2 && (((rd_T38 y108 x33_2).f1) == x105001_2)) := by simpa using c25)); clear c25; (first | rw [c25b0] | (simp only [i64_w, i32_w]; rw [c25b0]) | skip)
              by_cases c31 : ((rd_T38 y108 x33_2).f0) = x105000_2
              ·rw [if_pos c31] at H
               have c31b0 : (((rd_T38 y108 x33_2).f0) == x105000_2) = true := beq_iff_eq.mpr c31; (try (have c31x := c25b0; rw [c31b0, Bool.true_and] at c31x)); have c31b1 : (((rd_T38 y108 x33_2).f0) != x105000_2) = false := bne_eq_false_iff_eq.mpr c31; clear c31; have H' := Aside0.mk H; clear H; have hnb32 := NB114_104.out; have hnc32 := NB104_114.out; have hcz33_0 : w20.cell? ⟨gb114, 0, none⟩ = some (.int .i64 0) := (blk_cell BK114.out 0).trans rfl; have hcz33_1 : w20.cell? ⟨gb114, 1, none⟩ = some (.int .i64 0) := (blk_cell BK114.out 1).trans rfl; have hfz33_0 := blk_frozen BK114.out 0; have hfz33_1 := blk_frozen BK114.out 1; go_wp2_with (first | (go_at_call 23; (with_reducible refine (impl_PtOk.calls ((rd_T38 y108 x33_2).f0) ((rd_T38 y108 x33_2).f1) true _ A23.out).mono ?_); rintro e w34 ⟨rfl, hb⟩; have n0_ := Aside0.mk (Kd.R_below (by (with_reducible repeat (first | apply Kd.R_alloc | apply Kd.R_drewN | apply Kd.R_drew)); exact (Kd.R_mono (Kd.R_far (p := ⟨gb114, 1, none⟩) (Kd.R_far (p := ⟨gb114, 0, none⟩) (Kd.R_mono HO_5.out (fun k_ hk => (⟨hk, hk.2⟩ : _ ∧ k_ ≠ gb114))) (fun _ hk => hk.2) (.int .i64 ((rd_T38 y108 x33_2).f0))) (fun _ hk => hk.2) (.int .i64 ((rd_T38 y108 x33_2).f1))) (fun _ h_ => h_.1))) hb); have n1_ := Aside0.mk (blk_below (g := gb104) (o := .cells #[.int .i64 x105000_2, .int .i64 x105001_2] 38 (0, 0)) (by (with_reducible repeat (first | refine blk_drewN ?_ _ | refine blk_drew ?_ | refine blk_alloc ?_ _)); refine blk_far ?_ NB104_114.out _; (with_reducible repeat (first | refine blk_drewN ?_ _ | refine blk_drew ?_ | refine blk_alloc ?_ _)); refine blk_far ?_ NB104_114.out _; (with_reducible repeat (first | refine blk_drewN ?_ _ | refine blk_drew ?_ | refine blk_alloc ?_ _)); exact BK104.out) hb); have n2_ := Aside0.mk (blk_below (g := gb114) (o := .cells #[.int .i64 ((rd_T38 y108 x33_2).f0), .int .i64 ((rd_T38 y108 x33_2).f1)] 38 (0, 0)) (by (with_reducible repeat (first | refine blk_drewN ?_ _ | refine blk_drew ?_ | refine blk_alloc ?_ _)); refine blk_put (cs := #[.int .i64 ((rd_T38 y108 x33_2).f0), .int .i64 0]) ?_ 1 _ rfl; (with_reducible repeat (first | refine blk_drewN ?_ _ | refine blk_drew ?_ | refine blk_alloc ?_ _)); refine blk_put (cs := #[.int .i64 0, .int .i64 0]) ?_ 0 _ rfl; (with_reducible repeat (first | refine blk_drewN ?_ _ | refine blk_drew ?_ | refine blk_alloc ?_ _)); exact BK114.out) hb); have n3_ := Aside0.mk (below_step (by repeat (first | (with_reducible first | exact HB.out | apply below_alloc | apply pw_below_drewN | apply below_drew1 | refine below_set ?_ GE104.out | refine below_set ?_ GE114.out) | exact HB.out)) hb); clear HO_5; clear BK104; clear BK114; clear HB; have HO_5 := n0_; have BK104 := n1_; have BK114 := n2_; have HB := n3_; clear n0_ n1_ n2_ n3_; (try clear hb); (try clear hb2); (try clear hk); (try clear hi); have hcz35_0 : w34.cell? ⟨gb114, 0, none⟩ = some (.int .i64 ((rd_T38 y108 x33_2).f0)) := (blk_cell BK114.out 0).trans rfl; have hcz35_1 : w34.cell? ⟨gb114, 1, none⟩ = some (.int .i64 ((rd_T38 y108 x33_2).f1)) := (blk_cell BK114.out 1).trans rfl; have hfz35_0 := blk_frozen BK114.out 0; have hfz35_1 := blk_frozen BK114.out 1; have hcz36_0 : w34.cell? ⟨gb104, 0, none⟩ = some (.int .i64 x105000_2) := (blk_cell BK104.out 0).trans rfl; have hcz36_1 : w34.cell? ⟨gb104, 1, none⟩ = some (.int .i64 x105001_2) := (blk_cell BK104.out 1).trans rfl; have hfz36_0 := blk_frozen BK104.out 0; have hfz36_1 := blk_frozen BK104.out 1))
               repeat (go_quiet (first | (go_at_call 23; (with_reducible refine (impl_PtOk.calls ((rd_T38 y108 x33_2).f0) ((rd_T38 y108 x33_2).f1) true _ A23.out).mono ?_); rintro e w34 ⟨rfl, hb⟩; have n0_ := Aside0.mk (Kd.R_below (by (with_reducible repeat (first | apply Kd.R_alloc | apply Kd.R_drewN | apply Kd.R_drew)); exact (Kd.R_mono (Kd.R_far (p := ⟨gb114, 1, none⟩) (Kd.R_far (p := ⟨gb114, 0, none⟩) (Kd.R_mono HO_5.out (fun k_ hk => (⟨hk, hk.2⟩ : _ ∧ k_ ≠ gb114))) (fun _ hk => hk.2) (.int .i64 ((rd_T38 y108 x33_2).f0))) (fun _ hk => hk.2) (.int .i64 ((rd_T38 y108 x33_2).f1))) (fun _ h_ => h_.1))) hb); have n1_ := Aside0.mk (blk_below (g := gb104) (o := .cells #[.int .i64 x105000_2, .int .i64 x105001_2] 38 (0, 0)) (by (with_reducible repeat (first | refine blk_drewN ?_ _ | refine blk_drew ?_ | refine blk_alloc ?_ _)); refine blk_far ?_ NB104_114.out _; (with_reducible repeat (first | refine blk_drewN ?_ _ | refine blk_drew ?_ | refine blk_alloc ?_ _)); refine blk_far ?_ NB104_114.out _; (with_reducible repeat (first | refine blk_drewN ?_ _ | refine blk_drew ?_ | refine blk_alloc ?_ _)); exact BK104.out) hb); have n2_ := Aside0.mk (blk_below (g := gb114) (o := .cells #[.int .i64 ((rd_T38 y108 x33_2).f0), .int .i64 ((rd_T38 y108 x33_2).f1)] 38 (0, 0)) (by (with_reducible repeat (first | refine blk_drewN ?_ _ | refine blk_drew ?_ | refine blk_alloc ?_ _)); refine blk_put (cs := #[.int .i64 ((rd_T38 y108 x33_2).f0), .int .i64 0]) ?_ 1 _ rfl; (with_reducible repeat (first | refine blk_drewN ?_ _ | refine blk_drew ?_ | refine blk_alloc ?_ _)); refine blk_put (cs := #[.int .i64 0, .int .i64 0]) ?_ 0 _ rfl; (with_reducible repeat (first | refine blk_drewN ?_ _ | refine blk_drew ?_ | refine blk_alloc ?_ _)); exact BK114.out) hb); have n3_ := Aside0.mk (below_step (by repeat (first | (with_reducible first | exact HB.out | apply below_alloc | apply pw_below_drewN | apply below_drew1 | refine below_set ?_ GE104.out | refine below_set ?_ GE114.out) | exact HB.out)) hb); clear HO_5; clear BK104; clear BK114; clear HB; have HO_5 := n0_; have BK104 := n1_; have BK114 := n2_; have HB := n3_; clear n0_ n1_ n2_ n3_; (try clear hb); (try clear hb2); (try clear hk); (try clear hi); have hcz35_0 : w34.cell? ⟨gb114, 0, none⟩ = some (.int .i64 ((rd_T38 y108 x33_2).f0)) := (blk_cell BK114.out 0).trans rfl; have hcz35_1 : w34.cell? ⟨gb114, 1, none⟩ = some (.int .i64 ((rd_T38 y108 x33_2).f1)) := (blk_cell BK114.out 1).trans rfl; have hfz35_0 := blk_frozen BK114.out 0; have hfz35_1 := blk_frozen BK114.out 1; have hcz36_0 : w34.cell? ⟨gb104, 0, none⟩ = some (.int .i64 x105000_2) := (blk_cell BK104.out 0).trans rfl; have hcz36_1 : w34.cell? ⟨gb104, 1, none⟩ = some (.int .i64 x105001_2) := (blk_cell BK104.out 1).trans rfl; have hfz36_0 := blk_frozen BK104.out 0; have hfz36_1 := blk_frozen BK104.out 1)); try go_wp2_with (first | (go_at_call 23; (with_reducible refine (impl_PtOk.calls ((rd_T38 y108 x33_2).f0) ((rd_T38 y108 x33_2).f1) true _ A23.out).mono ?_); rintro e w34 ⟨rfl, hb⟩; have n0_ := Aside0.mk (Kd.R_below (by (with_reducible repeat (first | apply Kd.R_alloc | apply Kd.R_drewN | apply Kd.R_drew)); exact (Kd.R_mono (Kd.R_far (p := ⟨gb114, 1, none⟩) (Kd.R_far (p := ⟨gb114, 0, none⟩) (Kd.R_mono HO_5.out (fun k_ hk => (⟨hk, hk.2⟩ : _ ∧ k_ ≠ gb114))) (fun _ hk => hk.2) (.int .i64 ((rd_T38 y108 x33_2).f0))) (fun _ hk => hk.2) (.int .i64 ((rd_T38 y108 x33_2).f1))) (fun _ h_ => h_.1))) hb); have n1_ := Aside0.mk (blk_below (g := gb104) (o := .cells #[.int .i64 x105000_2, .int .i64 x105001_2] 38 (0, 0)) (by (with_reducible repeat (first | refine blk_drewN ?_ _ | refine blk_drew ?_ | refine blk_alloc ?_ _)); refine blk_far ?_ NB104_114.out _; (with_reducible repeat (first | refine blk_drewN ?_ _ | refine blk_drew ?_ | refine blk_alloc ?_ _)); refine blk_far ?_ NB104_114.out _; (with_reducible repeat (first | refine blk_drewN ?_ _ | refine blk_drew ?_ | refine blk_alloc ?_ _)); exact BK104.out) hb); have n2_ := Aside0.mk (blk_below (g := gb114) (o := .cells #[.int .i64 ((rd_T38 y108 x33_2).f0), .int .i64 ((rd_T38 y108 x33_2).f1)] 38 (0, 0)) (by (with_reducible repeat (first | refine blk_drewN ?_ _ | refine blk_drew ?_ | refine blk_alloc ?_ _)); refine blk_put (cs := #[.int .i64 ((rd_T38 y108 x33_2).f0), .int .i64 0]) ?_ 1 _ rfl; (with_reducible repeat (first | refine blk_drewN ?_ _ | refine blk_drew ?_ | refine blk_alloc ?_ _)); refine blk_put (cs := #[.int .i64 0, .int .i64 0]) ?_ 0 _ rfl; (with_reducible repeat (first | refine blk_drewN ?_ _ | refine blk_drew ?_ | refine blk_alloc ?_ _)); exact BK114.out) hb); have n3_ := Aside0.mk (below_step (by repeat (first | (with_reducible first | exact HB.out | apply below_alloc | apply pw_below_drewN | apply below_drew1 | refine below_set ?_ GE104.out | refine below_set ?_ GE114.out) | exact HB.out)) hb); clear HO_5; clear BK104; clear BK114; clear HB; have HO_5 := n0_; have BK104 := n1_; have BK114 := n2_; have HB := n3_; clear n0_ n1_ n2_ n3_; (try clear hb); (try clear hb2); (try clear hk); (try clear hi); have hcz35_0 : w34.cell? ⟨gb114, 0, none⟩ = some (.int .i64 ((rd_T38 y108 x33_2).f0)) := (blk_cell BK114.out 0).trans rfl; have hcz35_1 : w34.cell? ⟨gb114, 1, none⟩ = some (.int .i64 ((rd_T38 y108 x33_2).f1)) := (blk_cell BK114.out 1).trans rfl; have hfz35_0 := blk_frozen BK114.out 0; have hfz35_1 := blk_frozen BK114.out 1; have hcz36_0 : w34.cell? ⟨gb104, 0, none⟩ = some (.int .i64 x105000_2) := (blk_cell BK104.out 0).trans rfl; have hcz36_1 : w34.cell? ⟨gb104, 1, none⟩ = some (.int .i64 x105001_2) := (blk_cell BK104.out 1).trans rfl; have hfz36_0 := blk_frozen BK104.out 0; have hfz36_1 := blk_frozen BK104.out 1)))
               go_meet
               case rel => exact ⟨_, (false), (by first | rfl | (simp; done) | (simp [*]; done)), H', ⟨by have := HJ1.out; have := HK2.out; first | omega | exact Nat.le_refl _⟩, ⟨by (with_reducible repeat (first | apply Kd.R_alloc | apply Kd.R_drewN | apply Kd.R_drew)); exact HO_5.out⟩, ⟨by (with_reducible repeat (first | refine blk_drewN ?_ _ | refine blk_drew ?_ | refine blk_alloc ?_ _)); exact BK104.out⟩, ⟨by (with_reducible repeat (first | refine blk_drewN ?_ _ | refine blk_drew ?_ | refine blk_alloc ?_ _)); exact BK114.out⟩, ⟨by repeat (first | (with_reducible first | exact HB.out | apply below_alloc | apply pw_below_drewN | apply below_drew1 | refine below_set ?_ GE104.out | refine below_set ?_ GE114.out) | exact HB.out)⟩⟩
              ·rw [if_neg c31] at H
               have c31b0 : (((rd_T38 y108 x33_2).f0) == x105000_2) = false := beq_eq_false_iff_ne.mpr c31; have c31b1 : (((rd_T38 y108 x33_2).f0) != x105000_2) = true := bne_iff_ne.mpr c31; have H' := Aside0.mk H; clear H; have hnb37 := NB114_104.out; have hnc37 := NB104_114.out; have hcz38_0 : w20.cell? ⟨gb114, 0, none⟩ = some (.int .i64 0) := (blk_cell BK114.out 0).trans rfl; have hcz38_1 : w20.cell? ⟨gb114, 1, none⟩ = some (.int .i64 0) := (blk_cell BK114.out 1).trans rfl; have hfz38_0 := blk_frozen BK114.out 0; have hfz38_1 := blk_frozen BK114.out 1; go_wp2_with (first | (go_at_call 23; (with_reducible refine (impl_PtOk.calls ((rd_T38 y108 x33_2).f0) ((rd_T38 y108 x33_2).f1) true _ A23.out).mono ?_); rintro e w39 ⟨rfl, hb⟩; have n0_ := Aside0.mk (Kd.R_below (by (with_reducible repeat (first | apply Kd.R_alloc | apply Kd.R_drewN | apply Kd.R_drew)); exact (Kd.R_mono (Kd.R_far (p := ⟨gb114, 1, none⟩) (Kd.R_far (p := ⟨gb114, 0, none⟩) (Kd.R_mono HO_5.out (fun k_ hk => (⟨hk, hk.2⟩ : _ ∧ k_ ≠ gb114))) (fun _ hk => hk.2) (.int .i64 ((rd_T38 y108 x33_2).f0))) (fun _ hk => hk.2) (.int .i64 ((rd_T38 y108 x33_2).f1))) (fun _ h_ => h_.1))) hb); have n1_ := Aside0.mk (blk_below (g := gb104) (o := .cells #[.int .i64 x105000_2, .int .i64 x105001_2] 38 (0, 0)) (by (with_reducible repeat (first | refine blk_drewN ?_ _ | refine blk_drew ?_ | refine blk_alloc ?_ _)); refine blk_far ?_ NB104_114.out _; (with_reducible repeat (first | refine blk_drewN ?_ _ | refine blk_drew ?_ | refine blk_alloc ?_ _)); refine blk_far ?_ NB104_114.out _; (with_reducible repeat (first | refine blk_drewN ?_ _ | refine blk_drew ?_ | refine blk_alloc ?_ _)); exact BK104.out) hb); have n2_ := Aside0.mk (blk_below (g := gb114) (o := .cells #[.int .i64 ((rd_T38 y108 x33_2).f0), .int .i64 ((rd_T38 y108 x33_2).f1)] 38 (0, 0)) (by (with_reducible repeat (first | refine blk_drewN ?_ _ | refine blk_drew ?_ | refine blk_alloc ?_ _)); refine blk_put (cs := #[.int .i64 ((rd_T38 y108 x33_2).f0), .int .i64 0]) ?_ 1 _ rfl; (with_reducible repeat (first | refine blk_drewN ?_ _ | refine blk_drew ?_ | refine blk_alloc ?_ _)); refine blk_put (cs := #[.int .i64 0, .int .i64 0]) ?_ 0 _ rfl; (with_reducible repeat (first | refine blk_drewN ?_ _ | refine blk_drew ?_ | refine blk_alloc ?_ _)); exact BK114.out) hb); have n3_ := Aside0.mk (below_step (by repeat (first | (with_reducible first | exact HB.out | apply below_alloc | apply pw_below_drewN | apply below_drew1 | refine below_set ?_ GE104.out | refine below_set ?_ GE114.out) | exact HB.out)) hb); clear HO_5; clear BK104; clear BK114; clear HB; have HO_5 := n0_; have BK104 := n1_; have BK114 := n2_; have HB := n3_; clear n0_ n1_ n2_ n3_; (try clear hb); (try clear hb2); (try clear hk); (try clear hi); have hcz40_0 : w39.cell? ⟨gb114, 0, none⟩ = some (.int .i64 ((rd_T38 y108 x33_2).f0)) := (blk_cell BK114.out 0).trans rfl; have hcz40_1 : w39.cell? ⟨gb114, 1, none⟩ = some (.int .i64 ((rd_T38 y108 x33_2).f1)) := (blk_cell BK114.out 1).trans rfl; have hfz40_0 := blk_frozen BK114.out 0; have hfz40_1 := blk_frozen BK114.out 1; have hcz41_0 : w39.cell? ⟨gb104, 0, none⟩ = some (.int .i64 x105000_2) := (blk_cell BK104.out 0).trans rfl; have hcz41_1 : w39.cell? ⟨gb104, 1, none⟩ = some (.int .i64 x105001_2) := (blk_cell BK104.out 1).trans rfl; have hfz41_0 := blk_frozen BK104.out 0; have hfz41_1 := blk_frozen BK104.out 1))
               repeat (go_quiet (first | (go_at_call 23; (with_reducible refine (impl_PtOk.calls ((rd_T38 y108 x33_2).f0) ((rd_T38 y108 x33_2).f1) true _ A23.out).mono ?_); rintro e w39 ⟨rfl, hb⟩; have n0_ := Aside0.mk (Kd.R_below (by (with_reducible repeat (first | apply Kd.R_alloc | apply Kd.R_drewN | apply Kd.R_drew)); exact (Kd.R_mono (Kd.R_far (p := ⟨gb114, 1, none⟩) (Kd.R_far (p := ⟨gb114, 0, none⟩) (Kd.R_mono HO_5.out (fun k_ hk => (⟨hk, hk.2⟩ : _ ∧ k_ ≠ gb114))) (fun _ hk => hk.2) (.int .i64 ((rd_T38 y108 x33_2).f0))) (fun _ hk => hk.2) (.int .i64 ((rd_T38 y108 x33_2).f1))) (fun _ h_ => h_.1))) hb); have n1_ := Aside0.mk (blk_below (g := gb104) (o := .cells #[.int .i64 x105000_2, .int .i64 x105001_2] 38 (0, 0)) (by (with_reducible repeat (first | refine blk_drewN ?_ _ | refine blk_drew ?_ | refine blk_alloc ?_ _)); refine blk_far ?_ NB104_114.out _; (with_reducible repeat (first | refine blk_drewN ?_ _ | refine blk_drew ?_ | refine blk_alloc ?_ _)); refine blk_far ?_ NB104_114.out _; (with_reducible repeat (first | refine blk_drewN ?_ _ | refine blk_drew ?_ | refine blk_alloc ?_ _)); exact BK104.out) hb); have n2_ := Aside0.mk (blk_below (g := gb114) (o := .cells #[.int .i64 ((rd_T38 y108 x33_2).f0), .int .i64 ((rd_T38 y108 x33_2).f1)] 38 (0, 0)) (by (with_reducible repeat (first | refine blk_drewN ?_ _ | refine blk_drew ?_ | refine blk_alloc ?_ _)); refine blk_put (cs := #[.int .i64 ((rd_T38 y108 x33_2).f0), .int .i64 0]) ?_ 1 _ rfl; (with_reducible repeat (first | refine blk_drewN ?_ _ | refine blk_drew ?_ | refine blk_alloc ?_ _)); refine blk_put (cs := #[.int .i64 0, .int .i64 0]) ?_ 0 _ rfl; (with_reducible repeat (first | refine blk_drewN ?_ _ | refine blk_drew ?_ | refine blk_alloc ?_ _)); exact BK114.out) hb); have n3_ := Aside0.mk (below_step (by repeat (first | (with_reducible first | exact HB.out | apply below_alloc | apply pw_below_drewN | apply below_drew1 | refine below_set ?_ GE104.out | refine below_set ?_ GE114.out) | exact HB.out)) hb); clear HO_5; clear BK104; clear BK114; clear HB; have HO_5 := n0_; have BK104 := n1_; have BK114 := n2_; have HB := n3_; clear n0_ n1_ n2_ n3_; (try clear hb); (try clear hb2); (try clear hk); (try clear hi); have hcz40_0 : w39.cell? ⟨gb114, 0, none⟩ = some (.int .i64 ((rd_T38 y108 x33_2).f0)) := (blk_cell BK114.out 0).trans rfl; have hcz40_1 : w39.cell? ⟨gb114, 1, none⟩ = some (.int .i64 ((rd_T38 y108 x33_2).f1)) := (blk_cell BK114.out 1).trans rfl; have hfz40_0 := blk_frozen BK114.out 0; have hfz40_1 := blk_frozen BK114.out 1; have hcz41_0 : w39.cell? ⟨gb104, 0, none⟩ = some (.int .i64 x105000_2) := (blk_cell BK104.out 0).trans rfl; have hcz41_1 : w39.cell? ⟨gb104, 1, none⟩ = some (.int .i64 x105001_2) := (blk_cell BK104.out 1).trans rfl; have hfz41_0 := blk_frozen BK104.out 0; have hfz41_1 := blk_frozen BK104.out 1)); try go_wp2_with (first | (go_at_call 23; (with_reducible refine (impl_PtOk.calls ((rd_T38 y108 x33_2).f0) ((rd_T38 y108 x33_2).f1) true _ A23.out).mono ?_); rintro e w39 ⟨rfl, hb⟩; have n0_ := Aside0.mk (Kd.R_below (by (with_reducible repeat (first | apply Kd.R_alloc | apply Kd.R_drewN | apply Kd.R_drew)); exact (Kd.R_mono (Kd.R_far (p := ⟨gb114, 1, none⟩) (Kd.R_far (p := ⟨gb114, 0, none⟩) (Kd.R_mono HO_5.out (fun k_ hk => (⟨hk, hk.2⟩ : _ ∧ k_ ≠ gb114))) (fun _ hk => hk.2) (.int .i64 ((rd_T38 y108 x33_2).f0))) (fun _ hk => hk.2) (.int .i64 ((rd_T38 y108 x33_2).f1))) (fun _ h_ => h_.1))) hb); have n1_ := Aside0.mk (blk_below (g := gb104) (o := .cells #[.int .i64 x105000_2, .int .i64 x105001_2] 38 (0, 0)) (by (with_reducible repeat (first | refine blk_drewN ?_ _ | refine blk_drew ?_ | refine blk_alloc ?_ _)); refine blk_far ?_ NB104_114.out _; (with_reducible repeat (first | refine blk_drewN ?_ _ | refine blk_drew ?_ | refine blk_alloc ?_ _)); refine blk_far ?_ NB104_114.out _; (with_reducible repeat (first | refine blk_drewN ?_ _ | refine blk_drew ?_ | refine blk_alloc ?_ _)); exact BK104.out) hb); have n2_ := Aside0.mk (blk_below (g := gb114) (o := .cells #[.int .i64 ((rd_T38 y108 x33_2).f0), .int .i64 ((rd_T38 y108 x33_2).f1)] 38 (0, 0)) (by (with_reducible repeat (first | refine blk_drewN ?_ _ | refine blk_drew ?_ | refine blk_alloc ?_ _)); refine blk_put (cs := #[.int .i64 ((rd_T38 y108 x33_2).f0), .int .i64 0]) ?_ 1 _ rfl; (with_reducible repeat (first | refine blk_drewN ?_ _ | refine blk_drew ?_ | refine blk_alloc ?_ _)); refine blk_put (cs := #[.int .i64 0, .int .i64 0]) ?_ 0 _ rfl; (with_reducible repeat (first | refine blk_drewN ?_ _ | refine blk_drew ?_ | refine blk_alloc ?_ _)); exact BK114.out) hb); have n3_ := Aside0.mk (below_step (by repeat (first | (with_reducible first | exact HB.out | apply below_alloc | apply pw_below_drewN | apply below_drew1 | refine below_set ?_ GE104.out | refine below_set ?_ GE114.out) | exact HB.out)) hb); clear HO_5; clear BK104; clear BK114; clear HB; have HO_5 := n0_; have BK104 := n1_; have BK114 := n2_; have HB := n3_; clear n0_ n1_ n2_ n3_; (try clear hb); (try clear hb2); (try clear hk); (try clear hi); have hcz40_0 : w39.cell? ⟨gb114, 0, none⟩ = some (.int .i64 ((rd_T38 y108 x33_2).f0)) := (blk_cell BK114.out 0).trans rfl; have hcz40_1 : w39.cell? ⟨gb114, 1, none⟩ = some (.int .i64 ((rd_T38 y108 x33_2).f1)) := (blk_cell BK114.out 1).trans rfl; have hfz40_0 := blk_frozen BK114.out 0; have hfz40_1 := blk_frozen BK114.out 1; have hcz41_0 : w39.cell? ⟨gb104, 0, none⟩ = some (.int .i64 x105000_2) := (blk_cell BK104.out 0).trans rfl; have hcz41_1 : w39.cell? ⟨gb104, 1, none⟩ = some (.int .i64 x105001_2) := (blk_cell BK104.out 1).trans rfl; have hfz41_0 := blk_frozen BK104.out 0; have hfz41_1 := blk_frozen BK104.out 1)))
               go_meet
               case rel => exact ⟨_, ((((rd_T38 y108 x33_2).f1) != x105001_2)), (by first | rfl | (simp; done) | (simp [*]; done)), H', ⟨by have := HJ1.out; have := HK2.out; first | omega | exact Nat.le_refl _⟩, ⟨by (with_reducible repeat (first | apply Kd.R_alloc | apply Kd.R_drewN | apply Kd.R_drew)); exact HO_5.out⟩, ⟨by (with_reducible repeat (first | refine blk_drewN ?_ _ | refine blk_drew ?_ | refine blk_alloc ?_ _)); exact BK104.out⟩, ⟨by (with_reducible repeat (first | refine blk_drewN ?_ _ | refine blk_drew ?_ | refine blk_alloc ?_ _)); exact BK114.out⟩, ⟨by repeat (first | (with_reducible first | exact HB.out | apply below_alloc | apply pw_below_drewN | apply below_drew1 | refine below_set ?_ GE104.out | refine below_set ?_ GE114.out) | exact HB.out)⟩⟩
            ·replace c24 := Bool.eq_false_iff.mpr c24
             subst c24
             have H1 : (impl_CodeStay.j2 k2 x5_2 y108 (y108.length : Int) x33_2 true x105000_2 x105001_2 ((rd_T38 y108 x33_2).f0) ((rd_T38 y108 x33_2).f1)) = some (r1, r2) := by rw [if_neg (show ¬ (false = true) by decide)] at H; exact H
             clear H; have H := H1; clear H1; have H' := Aside0.mk H; clear H; have hnb42 := NB114_104.out; have hnc42 := NB104_114.out; have hcz43_0 : w20.cell? ⟨gb114, 0, none⟩ = some (.int .i64 0) := (blk_cell BK114.out 0).trans rfl; have hcz43_1 : w20.cell? ⟨gb114, 1, none⟩ = some (.int .i64 0) := (blk_cell BK114.out 1).trans rfl; have hfz43_0 := blk_frozen BK114.out 0; have hfz43_1 := blk_frozen BK114.out 1; go_wp2_with (first | (go_at_call 23; (with_reducible refine (impl_PtOk.calls ((rd_T38 y108 x33_2).f0) ((rd_T38 y108 x33_2).f1) false _ A23.out).mono ?_); rintro e w44 ⟨rfl, hb⟩; have n0_ := Aside0.mk (Kd.R_below (by (with_reducible repeat (first | apply Kd.R_alloc | apply Kd.R_drewN | apply Kd.R_drew)); exact (Kd.R_mono (Kd.R_far (p := ⟨gb114, 1, none⟩) (Kd.R_far (p := ⟨gb114, 0, none⟩) (Kd.R_mono HO_5.out (fun k_ hk => (⟨hk, hk.2⟩ : _ ∧ k_ ≠ gb114))) (fun _ hk => hk.2) (.int .i64 ((rd_T38 y108 x33_2).f0))) (fun _ hk => hk.2) (.int .i64 ((rd_T38 y108 x33_2).f1))) (fun _ h_ => h_.1))) hb); have n1_ := Aside0.mk (blk_below (g := gb104) (o := .cells #[.int .i64 x105000_2, .int .i64 x105001_2] 38 (0, 0)) (by (with_reducible repeat (first | refine blk_drewN ?_ _ | refine blk_drew ?_ | refine blk_alloc ?_ _)); refine blk_far ?_ NB104_114.out _; (with_reducible repeat (first | refine blk_drewN ?_ _ | refine blk_drew ?_ | refine blk_alloc ?_ _)); refine blk_far ?_ NB104_114.out _; (with_reducible repeat (first | refine blk_drewN ?_ _ | refine blk_drew ?_ | refine blk_alloc ?_ _)); exact BK104.out) hb); have n2_ := Aside0.mk (blk_below (g := gb114) (o := .cells #[.int .i64 ((rd_T38 y108 x33_2).f0), .int .i64 ((rd_T38 y108 x33_2).f1)] 38 (0, 0)) (by (with_reducible repeat (first | refine blk_drewN ?_ _ | refine blk_drew ?_ | refine blk_alloc ?_ _)); refine blk_put (cs := #[.int .i64 ((rd_T38 y108 x33_2).f0), .int .i64 0]) ?_ 1 _ rfl; (with_reducible repeat (first | refine blk_drewN ?_ _ | refine blk_drew ?_ | refine blk_alloc ?_ _)); refine blk_put (cs := #[.int .i64 0, .int .i64 0]) ?_ 0 _ rfl; (with_reducible repeat (first | refine blk_drewN ?_ _ | refine blk_drew ?_ | refine blk_alloc ?_ _)); exact BK114.out) hb); have n3_ := Aside0.mk (below_step (by repeat (first | (with_reducible first | exact HB.out | apply below_alloc | apply pw_below_drewN | apply below_drew1 | refine below_set ?_ GE104.out | refine below_set ?_ GE114.out) | exact HB.out)) hb); clear HO_5; clear BK104; clear BK114; clear HB; have HO_5 := n0_; have BK104 := n1_; have BK114 := n2_; have HB := n3_; clear n0_ n1_ n2_ n3_; (try clear hb); (try clear hb2); (try clear hk); (try clear hi)))
             repeat (go_quiet (first | (go_at_call 23; (with_reducible refine (impl_PtOk.calls ((rd_T38 y108 x33_2).f0) ((rd_T38 y108 x33_2).f1) false _ A23.out).mono ?_); rintro e w44 ⟨rfl, hb⟩; have n0_ := Aside0.mk (Kd.R_below (by (with_reducible repeat (first | apply Kd.R_alloc | apply Kd.R_drewN | apply Kd.R_drew)); exact (Kd.R_mono (Kd.R_far (p := ⟨gb114, 1, none⟩) (Kd.R_far (p := ⟨gb114, 0, none⟩) (Kd.R_mono HO_5.out (fun k_ hk => (⟨hk, hk.2⟩ : _ ∧ k_ ≠ gb114))) (fun _ hk => hk.2) (.int .i64 ((rd_T38 y108 x33_2).f0))) (fun _ hk => hk.2) (.int .i64 ((rd_T38 y108 x33_2).f1))) (fun _ h_ => h_.1))) hb); have n1_ := Aside0.mk (blk_below (g := gb104) (o := .cells #[.int .i64 x105000_2, .int .i64 x105001_2] 38 (0, 0)) (by (with_reducible repeat (first | refine blk_drewN ?_ _ | refine blk_drew ?_ | refine blk_alloc ?_ _)); refine blk_far ?_ NB104_114.out _; (with_reducible repeat (first | refine blk_drewN ?_ _ | refine blk_drew ?_ | refine blk_alloc ?_ _)); refine blk_far ?_ NB104_114.out _; (with_reducible repeat (first | refine blk_drewN ?_ _ | refine blk_drew ?_ | refine blk_alloc ?_ _)); exact BK104.out) hb); have n2_ := Aside0.mk (blk_below (g := gb114) (o := .cells #[.int .i64 ((rd_T38 y108 x33_2).f0), .int .i64 ((rd_T38 y108 x33_2).f1)] 38 (0, 0)) (by (with_reducible repeat (first | refine blk_drewN ?_ _ | refine blk_drew ?_ | refine blk_alloc ?_ _)); refine blk_put (cs := #[.int .i64 ((rd_T38 y108 x33_2).f0), .int .i64 0]) ?_ 1 _ rfl; (with_reducible repeat (first | refine blk_drewN ?_ _ | refine blk_drew ?_ | refine blk_alloc ?_ _)); refine blk_put (cs := #[.int .i64 0, .int .i64 0]) ?_ 0 _ rfl; (with_reducible repeat (first | refine blk_drewN ?_ _ | refine blk_drew ?_ | refine blk_alloc ?_ _)); exact BK114.out) hb); have n3_ := Aside0.mk (below_step (by repeat (first | (with_reducible first | exact HB.out | apply below_alloc | apply pw_below_drewN | apply below_drew1 | refine below_set ?_ GE104.out | refine below_set ?_ GE114.out) | exact HB.out)) hb); clear HO_5; clear BK104; clear BK114; clear HB; have HO_5 := n0_; have BK104 := n1_; have BK114 := n2_; have HB := n3_; clear n0_ n1_ n2_ n3_; (try clear hb); (try clear hb2); (try clear hk); (try clear hi))); try go_wp2_with (first | (go_at_call 23; (with_reducible refine (impl_PtOk.calls ((rd_T38 y108 x33_2).f0) ((rd_T38 y108 x33_2).f1) false _ A23.out).mono ?_); rintro e w44 ⟨rfl, hb⟩; have n0_ := Aside0.mk (Kd.R_below (by (with_reducible repeat (first | apply Kd.R_alloc | apply Kd.R_drewN | apply Kd.R_drew)); exact (Kd.R_mono (Kd.R_far (p := ⟨gb114, 1, none⟩) (Kd.R_far (p := ⟨gb114, 0, none⟩) (Kd.R_mono HO_5.out (fun k_ hk => (⟨hk, hk.2⟩ : _ ∧ k_ ≠ gb114))) (fun _ hk => hk.2) (.int .i64 ((rd_T38 y108 x33_2).f0))) (fun _ hk => hk.2) (.int .i64 ((rd_T38 y108 x33_2).f1))) (fun _ h_ => h_.1))) hb); have n1_ := Aside0.mk (blk_below (g := gb104) (o := .cells #[.int .i64 x105000_2, .int .i64 x105001_2] 38 (0, 0)) (by (with_reducible repeat (first | refine blk_drewN ?_ _ | refine blk_drew ?_ | refine blk_alloc ?_ _)); refine blk_far ?_ NB104_114.out _; (with_reducible repeat (first | refine blk_drewN ?_ _ | refine blk_drew ?_ | refine blk_alloc ?_ _)); refine blk_far ?_ NB104_114.out _; (with_reducible repeat (first | refine blk_drewN ?_ _ | refine blk_drew ?_ | refine blk_alloc ?_ _)); exact BK104.out) hb); have n2_ := Aside0.mk (blk_below (g := gb114) (o := .cells #[.int .i64 ((rd_T38 y108 x33_2).f0), .int .i64 ((rd_T38 y108 x33_2).f1)] 38 (0, 0)) (by (with_reducible repeat (first | refine blk_drewN ?_ _ | refine blk_drew ?_ | refine blk_alloc ?_ _)); refine blk_put (cs := #[.int .i64 ((rd_T38 y108 x33_2).f0), .int .i64 0]) ?_ 1 _ rfl; (with_reducible repeat (first | refine blk_drewN ?_ _ | refine blk_drew ?_ | refine blk_alloc ?_ _)); refine blk_put (cs := #[.int .i64 0, .int .i64 0]) ?_ 0 _ rfl; (with_reducible repeat (first | refine blk_drewN ?_ _ | refine blk_drew ?_ | refine blk_alloc ?_ _)); exact BK114.out) hb); have n3_ := Aside0.mk (below_step (by repeat (first | (with_reducible first | exact HB.out | apply below_alloc | apply pw_below_drewN | apply below_drew1 | refine below_set ?_ GE104.out | refine below_set ?_ GE114.out) | exact HB.out)) hb); clear HO_5; clear BK104; clear BK114; clear HB; have HO_5 := n0_; have BK104 := n1_; have BK114 := n2_; have HB := n3_; clear n0_ n1_ n2_ n3_; (try clear hb); (try clear hb2); (try clear hk); (try clear hi))))
             go_meet
             case rel => exact ⟨_, (true), (by first | rfl | (simp; done) | (simp [*]; done)), H', ⟨by have := HJ1.out; have := HK2.out; first | omega | exact Nat.le_refl _⟩, ⟨by (with_reducible repeat (first | apply Kd.R_alloc | apply Kd.R_drewN | apply Kd.R_drew)); exact HO_5.out⟩, ⟨by (with_reducible repeat (first | refine blk_drewN ?_ _ | refine blk_drew ?_ | refine blk_alloc ?_ _)); exact BK104.out⟩, ⟨by (with_reducible repeat (first | refine blk_drewN ?_ _ | refine blk_drew ?_ | refine blk_alloc ?_ _)); exact BK114.out⟩, ⟨by repeat (first | (with_reducible first | exact HB.out | apply below_alloc | apply pw_below_drewN | apply below_drew1 | refine below_set ?_ GE104.out | refine below_set ?_ GE114.out) | exact HB.out)⟩⟩
           case rest =>
            clear HC19
            try clear c1
            try clear p1
            try clear q1
            try clear hx1
            try clear qi1
            try clear c2
            try clear p2
            try clear c3
            try clear c3b0
            try clear c3b1
            try clear c4
            try clear c4b0
            try clear c4b1
            try clear c5
            try clear c5b0
            try clear c5b1
            try clear c8
            try clear c9
            try clear c9b0
            try clear c9b1
            try clear c10
            try clear c10b0
            try clear c10b1
            try clear p10
            try clear q10
            try clear hx10
            try clear qi10
            try clear p11
            try clear q11
            try clear hx11
            try clear c15
            try clear q15
            try clear c16
            try clear c16b0
            try clear c17
            try clear c17b0
            try clear c18
            try clear c18b0
            try clear c21
            try clear c24
            try clear c25
            try clear c25b0
            try clear c25b1
            try clear c25b2
            try clear c26
            try clear c31
            try clear c31b0
            try clear c31b1
            try clear c32
            try clear c37
            try clear c42
            try clear hcz12_0
            try clear hcz12_1
            try clear hcz22_0
            try clear hcz22_1
            try clear hcz27_0
            try clear hcz27_1
            try clear hcz29_0
            try clear hcz29_1
            try clear hcz30_0
            try clear hcz30_1
            try clear hcz33_0
            try clear hcz33_1
            try clear hcz35_0
            try clear hcz35_1
            try clear hcz36_0
            try clear hcz36_1
            try clear hcz38_0
            try clear hcz38_1
            try clear hcz40_0
            try clear hcz40_1
            try clear hcz41_0
            try clear hcz41_1
            try clear hcz43_0
            try clear hcz43_1
            try clear hfz12_0
            try clear hfz12_1
            try clear hfz22_0
            try clear hfz22_1
            try clear hfz27_0
            try clear hfz27_1
            try clear hfz29_0
            try clear hfz29_1
            try clear hfz30_0
            try clear hfz30_1
            try clear hfz33_0
            try clear hfz33_1
            try clear hfz35_0
            try clear hfz35_1
            try clear hfz36_0
            try clear hfz36_1
            try clear hfz38_0
            try clear hfz38_1
            try clear hfz40_0
            try clear hfz40_1
            try clear hfz41_0
            try clear hfz41_1
            try clear hfz43_0
            try clear hfz43_1
            try clear hx101_0
            try clear hx101_1
            try clear hx103_0
            try clear hx103_1
            try clear hx113_0
            try clear hx113_1
            try clear p1
            try clear p10
            try clear p101
            try clear p103
            try clear p113
            try clear p2
            try clear q1
            try clear q10
            try clear q101
            try clear q103
            try clear q113
            try clear q15
            obtain ⟨kq, x58_18, rfl, HA, HJ18, HO_5, BK104, BK114, HB⟩ := hcut
            cases kq with
            | zero => exact absurd HA.out (by simp [impl_CodeStay.j2])
            | succ kj18 =>
             have H := HA.out; clear HA; simp only [impl_CodeStay.j2] at H
             by_cases c45 : x58_18 = true
             ·subst c45
              have H1 : (some (([] : List (S38)), false)) = some (r1, r2) := by rw [if_pos rfl] at H; exact H
              clear H; have H := H1; clear H1; simp only [Option.some.injEq, Prod.mk.injEq] at H; obtain ⟨rfl, rfl⟩ := H; go_wp2
              repeat (go_quiet (fail); try go_wp2)
              go_ret2
              exact ⟨_, by first | rfl | (simp [errW_none, errW_some] <;> rfl) | (simp [*, errW_none, errW_some] <;> rfl), by first | exact Kd.R_nil _ _ _ _ _ | exact Kd.N_nil _ _ _ _ _ | exact Kd.V_nil _ _ _ _ _ | exact Kd.Q_nil _ _ _ _ _ | exact Kd.S_nil _ _ _ _ _, by repeat (first | (with_reducible first | exact HB.out | apply below_alloc | apply pw_below_drewN | apply below_drew1 | refine below_set ?_ GE104.out | refine below_set ?_ GE114.out) | exact HB.out)⟩
             ·replace c45 := Bool.eq_false_iff.mpr c45
              subst c45
              have H1 : ((impl_toward.f x105000_2 ((rd_T38 y108 x33_2).f0)).bind fun t116 => ((impl_toward.f x105001_2 ((rd_T38 y108 x33_2).f1)).bind fun t117 => (impl_CodeStay.l1 kj18 x5_2 t116 t117 y108 (y108.length : Int) x33_2 x105000_2 x105001_2 ((rd_T38 y108 x33_2).f0) ((rd_T38 y108 x33_2).f1)))) = some (r1, r2) := by rw [if_neg (show ¬ (false = true) by decide)] at H; exact H
              clear H; have H := H1; clear H1; replace H := Option.bind_eq_some_iff.mp H; obtain ⟨t116, A460, H⟩ := H; replace H : ((impl_toward.f x105001_2 ((rd_T38 y108 x33_2).f1)).bind fun t117 => (impl_CodeStay.l1 kj18 x5_2 t116 t117 y108 (y108.length : Int) x33_2 x105000_2 x105001_2 ((rd_T38 y108 x33_2).f0) ((rd_T38 y108 x33_2).f1))) = some (r1, r2) := H; have A46 := Aside0.mk A460; clear A460; replace H := Option.bind_eq_some_iff.mp H; obtain ⟨t117, A470, H⟩ := H; replace H : (impl_CodeStay.l1 kj18 x5_2 t116 t117 y108 (y108.length : Int) x33_2 x105000_2 x105001_2 ((rd_T38 y108 x33_2).f0) ((rd_T38 y108 x33_2).f1)) = some (r1, r2) := H; have A47 := Aside0.mk A470; clear A470; have H' := Aside0.mk H; clear H; have hnb48 := NB104_114.out; have hnc48 := NB114_104.out; have hcz49_0 : wc.cell? ⟨gb104, 0, none⟩ = some (.int .i64 x105000_2) := (blk_cell BK104.out 0).trans rfl; have hcz49_1 : wc.cell? ⟨gb104, 1, none⟩ = some (.int .i64 x105001_2) := (blk_cell BK104.out 1).trans rfl; have hfz49_0 := blk_frozen BK104.out 0; have hfz49_1 := blk_frozen BK104.out 1; have hcz50_0 : wc.cell? ⟨gb114, 0, none⟩ = some (.int .i64 ((rd_T38 y108 x33_2).f0)) := (blk_cell BK114.out 0).trans rfl; have hcz50_1 : wc.cell? ⟨gb114, 1, none⟩ = some (.int .i64 ((rd_T38 y108 x33_2).f1)) := (blk_cell BK114.out 1).trans rfl; have hfz50_0 := blk_frozen BK114.out 0; have hfz50_1 := blk_frozen BK114.out 1; go_wp2_with (first | (go_at_call 34; (with_reducible refine (impl_toward.calls x105000_2 ((rd_T38 y108 x33_2).f0) t116 _ A46.out).mono ?_); rintro e w' ⟨rfl, ⟨nd, rfl⟩⟩; (try first | exact ⟨rfl, _, World.drewN_drewN _ _ _⟩ | exact ⟨rfl, _, Eq.trans (World.drewN_drewN _ _ _) (congrArg (World.drewN _) (Nat.add_assoc _ _ _))⟩)) | (go_at_call 34; (with_reducible refine (impl_toward.calls x105001_2 ((rd_T38 y108 x33_2).f1) t117 _ A47.out).mono ?_); rintro e w' ⟨rfl, ⟨nd, rfl⟩⟩; (try first | exact ⟨rfl, _, World.drewN_drewN _ _ _⟩ | exact ⟨rfl, _, Eq.trans (World.drewN_drewN _ _ _) (congrArg (World.drewN _) (Nat.add_assoc _ _ _))⟩)))
              repeat (go_quiet (first | (go_at_call 34; (with_reducible refine (impl_toward.calls x105000_2 ((rd_T38 y108 x33_2).f0) t116 _ A46.out).mono ?_); rintro e w' ⟨rfl, ⟨nd, rfl⟩⟩; (try first | exact ⟨rfl, _, World.drewN_drewN _ _ _⟩ | exact ⟨rfl, _, Eq.trans (World.drewN_drewN _ _ _) (congrArg (World.drewN _) (Nat.add_assoc _ _ _))⟩)) | (go_at_call 34; (with_reducible refine (impl_toward.calls x105001_2 ((rd_T38 y108 x33_2).f1) t117 _ A47.out).mono ?_); rintro e w' ⟨rfl, ⟨nd, rfl⟩⟩; (try first | exact ⟨rfl, _, World.drewN_drewN _ _ _⟩ | exact ⟨rfl, _, Eq.trans (World.drewN_drewN _ _ _) (congrArg (World.drewN _) (Nat.add_assoc _ _ _))⟩))); try go_wp2_with (first | (go_at_call 34; (with_reducible refine (impl_toward.calls x105000_2 ((rd_T38 y108 x33_2).f0) t116 _ A46.out).mono ?_); rintro e w' ⟨rfl, ⟨nd, rfl⟩⟩; (try first | exact ⟨rfl, _, World.drewN_drewN _ _ _⟩ | exact ⟨rfl, _, Eq.trans (World.drewN_drewN _ _ _) (congrArg (World.drewN _) (Nat.add_assoc _ _ _))⟩)) | (go_at_call 34; (with_reducible refine (impl_toward.calls x105001_2 ((rd_T38 y108 x33_2).f1) t117 _ A47.out).mono ?_); rintro e w' ⟨rfl, ⟨nd, rfl⟩⟩; (try first | exact ⟨rfl, _, World.drewN_drewN _ _ _⟩ | exact ⟨rfl, _, Eq.trans (World.drewN_drewN _ _ _) (congrArg (World.drewN _) (Nat.add_assoc _ _ _))⟩))))
              go_loopg [5] kj18 (fun kq v5 w' => ∃ (x5_4 : List (S38)) (x105000_4 : Int) (x105001_4 : Int), Aside0 (impl_CodeStay.l1 kq x5_4 t116 t117 y108 (y108.length : Int) x33_2 x105000_4 x105001_4 ((rd_T38 y108 x33_2).f0) ((rd_T38 y108 x33_2).f1) = some (r1, r2)) ∧ Aside0 (kq ≤ kj18) ∧ Aside0 (Kd.R k38 38 w' w.heap.size (fun k_ => k_ ≠ gb104 ∧ k_ ≠ gb114) v5 x5_4) ∧ Aside0 (w'.heap[gb104]? = some (.cells #[.int .i64 x105000_4, .int .i64 x105001_4] 38 (0, 0))) ∧ Aside0 (w'.heap[gb114]? = some (.cells #[.int .i64 ((rd_T38 y108 x33_2).f0), .int .i64 ((rd_T38 y108 x33_2).f1)] 38 (0, 0))) ∧ Aside0 (Below w.heap.size w w'))
              case atStart => exact ⟨(x5_2), (x105000_2), (x105001_2), H', ⟨Nat.le_refl _⟩, ⟨by (with_reducible repeat (first | apply Kd.R_alloc | apply Kd.R_drewN | apply Kd.R_drew)); exact HO_5.out⟩, ⟨by (with_reducible repeat (first | refine blk_drewN ?_ _ | refine blk_drew ?_ | refine blk_alloc ?_ _)); exact BK104.out⟩, ⟨by (with_reducible repeat (first | refine blk_drewN ?_ _ | refine blk_drew ?_ | refine blk_alloc ?_ _)); exact BK114.out⟩, ⟨by repeat (first | (with_reducible first | exact HB.out | apply below_alloc | apply pw_below_drewN | apply below_drew1 | refine below_set ?_ GE104.out | refine below_set ?_ GE114.out) | exact HB.out)⟩⟩
              case round =>
               clear H'
               try clear c1
               try clear p1
               try clear q1
               try clear hx1
               try clear qi1
               try clear c2
               try clear p2
               try clear c3
               try clear c3b0
               try clear c3b1
               try clear c4
               try clear c4b0
               try clear c4b1
               try clear c5
               try clear c5b0
               try clear c5b1
               try clear c8
               try clear c9
               try clear c9b0
               try clear c9b1
               try clear c10
               try clear c10b0
               try clear c10b1
               try clear p10
               try clear q10
               try clear hx10
               try clear qi10
               try clear p11
               try clear q11
               try clear hx11
               try clear c15
               try clear q15
               try clear c16
               try clear c16b0
               try clear c17
               try clear c17b0
               try clear c18
               try clear c18b0
               try clear c21
               try clear c24
               try clear c25
               try clear c25b0
               try clear c25b1
               try clear c25b2
               try clear c26
               try clear c31
               try clear c31b0
               try clear c31b1
               try clear c32
               try clear c37
               try clear c42
               try clear c45
               try clear c48
               try clear hcz12_0
               try clear hcz12_1
               try clear hcz22_0
               try clear hcz22_1
               try clear hcz27_0
               try clear hcz27_1
               try clear hcz29_0
               try clear hcz29_1
               try clear hcz30_0
               try clear hcz30_1
               try clear hcz33_0
               try clear hcz33_1
               try clear hcz35_0
               try clear hcz35_1
               try clear hcz36_0
               try clear hcz36_1
               try clear hcz38_0
               try clear hcz38_1
               try clear hcz40_0
               try clear hcz40_1
               try clear hcz41_0
               try clear hcz41_1
               try clear hcz43_0
               try clear hcz43_1
               try clear hcz49_0
               try clear hcz49_1
               try clear hcz50_0
               try clear hcz50_1
               try clear hfz12_0
               try clear hfz12_1
               try clear hfz22_0
               try clear hfz22_1
               try clear hfz27_0
               try clear hfz27_1
               try clear hfz29_0
               try clear hfz29_1
               try clear hfz30_0
               try clear hfz30_1
               try clear hfz33_0
               try clear hfz33_1
               try clear hfz35_0
               try clear hfz35_1
               try clear hfz36_0
               try clear hfz36_1
               try clear hfz38_0
               try clear hfz38_1
               try clear hfz40_0
               try clear hfz40_1
               try clear hfz41_0
               try clear hfz41_1
               try clear hfz43_0
               try clear hfz43_1
               try clear hfz49_0
               try clear hfz49_1
               try clear hfz50_0
               try clear hfz50_1
               try clear hx101_0
               try clear hx101_1
               try clear hx103_0
               try clear hx103_1
               try clear hx113_0
               try clear hx113_1
               try clear p1
               try clear p10
               try clear p101
               try clear p103
               try clear p11
               try clear p113
               try clear p2
               try clear q1
               try clear q10
               try clear q101
               try clear q103
               try clear q11
               try clear q113
               try clear q15
               obtain ⟨x5_4, x105000_4, x105001_4, HA, HK4, HO_5, BK104, BK114, HB⟩ := hrel
               cases gk with
               | zero => exact absurd HA.out (by simp [impl_CodeStay.l1])
               | succ k4 =>
                have H := HA.out; clear HA; simp only [impl_CodeStay.l1] at H
                by_cases c51 : (!(x105000_4 == ((rd_T38 y108 x33_2).f0)) || (!(x105001_4 == ((rd_T38 y108 x33_2).f1)))) = true
                ·rw [if_pos c51] at H
                 have c51b0 : (!(x105000_4 == ((rd_T38 y108 x33_2).f0)) || (!(x105001_4 == ((rd_T38 y108 x33_2).f1)))) = true := c51; clear c51
                 by_cases c52 : x5_4.length < 8796093022208
                 ·rw [if_pos c52] at H
                  have LMc52 := Aside0.mk c52; clear c52; obtain ⟨y118, hy118⟩ : ∃ y_ : List (S38), y_ = (x5_4 ++ [(⟨wrap64 (x105000_4 + t116), wrap64 (x105001_4 + t117)⟩ : S38)]) := ⟨_, rfl⟩
                  replace H : (impl_CodeStay.l1 k4 y118 t116 t117 y108 (y108.length : Int) x33_2 (wrap64 (x105000_4 + t116)) (wrap64 (x105001_4 + t117)) ((rd_T38 y108 x33_2).f0) ((rd_T38 y108 x33_2).f1)) = some (r1, r2) := by first | (rw [hy118]; with_reducible exact H) | (have H2_ := (Option.bind_some _ _).symm.trans H; rw [hy118]; with_reducible exact H2_) | (have H2_ := (Option.bind_some _ _).symm.trans H; with_reducible exact H2_) | with_reducible exact H | (rw [hy118]; exact H) | exact H
                  have Ny118 := Aside0.mk hy118; clear hy118; have H' := Aside0.mk H; clear H; have hnb53 := NB104_114.out; have hnc53 := NB114_104.out; have hcz54_0 : wr.cell? ⟨gb104, 0, none⟩ = some (.int .i64 x105000_4) := (blk_cell BK104.out 0).trans rfl; have hcz54_1 : wr.cell? ⟨gb104, 1, none⟩ = some (.int .i64 x105001_4) := (blk_cell BK104.out 1).trans rfl; have hfz54_0 := blk_frozen BK104.out 0; have hfz54_1 := blk_frozen BK104.out 1; have hcz55_0 : wr.cell? ⟨gb114, 0, none⟩ = some (.int .i64 ((rd_T38 y108 x33_2).f0)) := (blk_cell BK114.out 0).trans rfl; have hcz55_1 : wr.cell? ⟨gb114, 1, none⟩ = some (.int .i64 ((rd_T38 y108 x33_2).f1)) := (blk_cell BK114.out 1).trans rfl; have hfz55_0 := blk_frozen BK114.out 0; have hfz55_1 := blk_frozen BK114.out 1; go_wp2_with (first | ((with_reducible refine gate_builtin (b := .append) (xs := #[.tmp 81, .tmp 83]) rfl ?_); (try (refine gate_guard (by rfl) ?_; dsimp only)); at_builtin; refine Kd.R_append k38 (w0 := w) w.heap.size rfl (.tmp 81) (.tmp 83) 24 38 (.agg #[(.int .i64 0), (.int .i64 0)]) 16 rfl Try.underlying24 info38 rfl (by decide) (by omega) u5 x5_4 (⟨wrap64 (x105000_4 + t116), wrap64 (x105001_4 + t117)⟩ : S38) [.int .i64 (wrap64 (x105000_4 + t116)), .int .i64 (wrap64 (x105001_4 + t117))] (fun k_ => k_ ≠ gb104 ∧ k_ ≠ gb114) (fun _ => False) rfl (by first | (go_simp; done) | (go_simp; rfl)) ?aP (fun _ hk => hk.elim) ?aF ?aO ?aB ?aS ?aL ?_; (case aP => exact k38_mkM _ _ _ (⟨wrap64 (x105000_4 + t116), wrap64 (x105001_4 + t117)⟩ : S38)); (case aB => exact (by repeat (first | (with_reducible first | exact HB.out | apply below_alloc | apply pw_below_drewN | apply below_drew1 | refine below_set ?_ GE104.out | refine below_set ?_ GE114.out) | exact HB.out))); (case aF => exact (fun k_ hk => ⟨Kd.freshB (g := gb104) (o := .cells #[.int .i64 (wrap64 (x105000_4 + t116)), .int .i64 (wrap64 (x105001_4 + t117))] 38 (0, 0)) (by (with_reducible repeat (first | refine blk_drewN ?_ _ | refine blk_drew ?_ | refine blk_alloc ?_ _)); refine blk_put (cs := #[.int .i64 (wrap64 (x105000_4 + t116)), .int .i64 x105001_4]) ?_ 1 _ rfl; (with_reducible repeat (first | refine blk_drewN ?_ _ | refine blk_drew ?_ | refine blk_alloc ?_ _)); refine blk_put (cs := #[.int .i64 x105000_4, .int .i64 x105001_4]) ?_ 0 _ rfl; (with_reducible repeat (first | refine blk_drewN ?_ _ | refine blk_drew ?_ | refine blk_alloc ?_ _)); exact BK104.out) k_ hk, Kd.freshB (g := gb114) (o := .cells #[.int .i64 ((rd_T38 y108 x33_2).f0), .int .i64 ((rd_T38 y108 x33_2).f1)] 38 (0, 0)) (by (with_reducible repeat (first | refine blk_drewN ?_ _ | refine blk_drew ?_ | refine blk_alloc ?_ _)); refine blk_far ?_ NB114_104.out _; (with_reducible repeat (first | refine blk_drewN ?_ _ | refine blk_drew ?_ | refine blk_alloc ?_ _)); refine blk_far ?_ NB114_104.out _; (with_reducible repeat (first | refine blk_drewN ?_ _ | refine blk_drew ?_ | refine blk_alloc ?_ _)); exact BK114.out) k_ hk⟩)); (case aO => exact (by (with_reducible repeat (first | apply Kd.R_alloc | apply Kd.R_drewN | apply Kd.R_drew)); exact Kd.R_mono (Kd.R_far (p := ⟨gb104, 1, none⟩) (Kd.R_far (p := ⟨gb104, 0, none⟩) (Kd.R_mono HO_5.out (fun k_ hk => (⟨hk, hk.1⟩ : _ ∧ k_ ≠ gb104))) (fun _ hk => hk.2) (.int .i64 (wrap64 (x105000_4 + t116)))) (fun _ hk => hk.2) (.int .i64 (wrap64 (x105001_4 + t117)))) (fun _ hk => ⟨hk.1.1, hk.1.2⟩))); (case aS => exact (below_size (by repeat (first | (with_reducible first | exact HB.out | apply below_alloc | apply pw_below_drewN | apply below_drew1 | refine below_set ?_ GE104.out | refine below_set ?_ GE114.out) | exact HB.out)))); (case aL => have := LMc52.out; omega); intro v119 w56 ho hb hg hat; rw [← Ny118.out] at ho; have n0_ := Aside0.mk (blk_grown (g := gb104) (o := .cells #[.int .i64 (wrap64 (x105000_4 + t116)), .int .i64 (wrap64 (x105001_4 + t117))] 38 (0, 0)) (by (with_reducible repeat (first | refine blk_drewN ?_ _ | refine blk_drew ?_ | refine blk_alloc ?_ _)); refine blk_put (cs := #[.int .i64 (wrap64 (x105000_4 + t116)), .int .i64 x105001_4]) ?_ 1 _ rfl; (with_reducible repeat (first | refine blk_drewN ?_ _ | refine blk_drew ?_ | refine blk_alloc ?_ _)); refine blk_put (cs := #[.int .i64 x105000_4, .int .i64 x105001_4]) ?_ 0 _ rfl; (with_reducible repeat (first | refine blk_drewN ?_ _ | refine blk_drew ?_ | refine blk_alloc ?_ _)); exact BK104.out) hg (Kd.R_away HO_5.out (fun _ hk => hk.1))); have n1_ := Aside0.mk (blk_grown (g := gb114) (o := .cells #[.int .i64 ((rd_T38 y108 x33_2).f0), .int .i64 ((rd_T38 y108 x33_2).f1)] 38 (0, 0)) (by (with_reducible repeat (first | refine blk_drewN ?_ _ | refine blk_drew ?_ | refine blk_alloc ?_ _)); refine blk_far ?_ NB114_104.out _; (with_reducible repeat (first | refine blk_drewN ?_ _ | refine blk_drew ?_ | refine blk_alloc ?_ _)); refine blk_far ?_ NB114_104.out _; (with_reducible repeat (first | refine blk_drewN ?_ _ | refine blk_drew ?_ | refine blk_alloc ?_ _)); exact BK114.out) hg (Kd.R_away HO_5.out (fun _ hk => hk.2))); have n2_ := Aside0.mk (hb); have n3_ := Aside0.mk (ho); clear BK104; clear BK114; clear HB; clear HO_5; have BK104 := n0_; have BK114 := n1_; have HB := n2_; have HO120 := n3_; clear n0_ n1_ n2_ n3_; clear ho hb hg hat))
                  repeat (go_quiet (first | ((with_reducible refine gate_builtin (b := .append) (xs := #[.tmp 81, .tmp 83]) rfl ?_); (try (refine gate_guard (by rfl) ?_; dsimp only)); at_builtin; refine Kd.R_append k38 (w0 := w) w.heap.size rfl (.tmp 81) (.tmp 83) 24 38 (.agg #[(.int .i64 0), (.int .i64 0)]) 16 rfl Try.underlying24 info38 rfl (by decide) (by omega) u5 x5_4 (⟨wrap64 (x105000_4 + t116), wrap64 (x105001_4 + t117)⟩ : S38) [.int .i64 (wrap64 (x105000_4 + t116)), .int .i64 (wrap64 (x105001_4 + t117))] (fun k_ => k_ ≠ gb104 ∧ k_ ≠ gb114) (fun _ => False) rfl (by first | (go_simp; done) | (go_simp; rfl)) ?aP (fun _ hk => hk.elim) ?aF ?aO ?aB ?aS ?aL ?_; (case aP => exact k38_mkM _ _ _ (⟨wrap64 (x105000_4 + t116), wrap64 (x105001_4 + t117)⟩ : S38)); (case aB => exact (by repeat (first | (with_reducible first | exact HB.out | apply below_alloc | apply pw_below_drewN | apply below_drew1 | refine below_set ?_ GE104.out | refine below_set ?_ GE114.out) | exact HB.out))); (case aF => exact (fun k_ hk => ⟨Kd.freshB (g := gb104) (o := .cells #[.int .i64 (wrap64 (x105000_4 + t116)), .int .i64 (wrap64 (x105001_4 + t117))] 38 (0, 0)) (by (with_reducible repeat (first | refine blk_drewN ?_ _ | refine blk_drew ?_ | refine blk_alloc ?_ _)); refine blk_put (cs := #[.int .i64 (wrap64 (x105000_4 + t116)), .int .i64 x105001_4]) ?_ 1 _ rfl; (with_reducible repeat (first | refine blk_drewN ?_ _ | refine blk_drew ?_ | refine blk_alloc ?_ _)); refine blk_put (cs := #[.int .i64 x105000_4, .int .i64 x105001_4]) ?_ 0 _ rfl; (with_reducible repeat (first | refine blk_drewN ?_ _ | refine blk_drew ?_ | refine blk_alloc ?_ _)); exact BK104.out) k_ hk, Kd.freshB (g := gb114) (o := .cells #[.int .i64 ((rd_T38 y108 x33_2).f0), .int .i64 ((rd_T38 y108 x33_2).f1)] 38 (0, 0)) (by (with_reducible repeat (first | refine blk_drewN ?_ _ | refine blk_drew ?_ | refine blk_alloc ?_ _)); refine blk_far ?_ NB114_104.out _; (with_reducible repeat (first | refine blk_drewN ?_ _ | refine blk_drew ?_ | refine blk_alloc ?_ _)); refine blk_far ?_ NB114_104.out _; (with_reducible repeat (first | refine blk_drewN ?_ _ | refine blk_drew ?_ | refine blk_alloc ?_ _)); exact BK114.out) k_ hk⟩)); (case aO => exact (by (with_reducible repeat (first | apply Kd.R_alloc | apply Kd.R_drewN | apply Kd.R_drew)); exact Kd.R_mono (Kd.R_far (p := ⟨gb104, 1, none⟩) (Kd.R_far (p := ⟨gb104, 0, none⟩) (Kd.R_mono HO_5.out (fun k_ hk => (⟨hk, hk.1⟩ : _ ∧ k_ ≠ gb104))) (fun _ hk => hk.2) (.int .i64 (wrap64 (x105000_4 + t116)))) (fun _ hk => hk.2) (.int .i64 (wrap64 (x105001_4 + t117)))) (fun _ hk => ⟨hk.1.1, hk.1.2⟩))); (case aS => exact (below_size (by repeat (first | (with_reducible first | exact HB.out | apply below_alloc | apply pw_below_drewN | apply below_drew1 | refine below_set ?_ GE104.out | refine below_set ?_ GE114.out) | exact HB.out)))); (case aL => have := LMc52.out; omega); intro v119 w56 ho hb hg hat; rw [← Ny118.out] at ho; have n0_ := Aside0.mk (blk_grown (g := gb104) (o := .cells #[.int .i64 (wrap64 (x105000_4 + t116)), .int .i64 (wrap64 (x105001_4 + t117))] 38 (0, 0)) (by (with_reducible repeat (first | refine blk_drewN ?_ _ | refine blk_drew ?_ | refine blk_alloc ?_ _)); refine blk_put (cs := #[.int .i64 (wrap64 (x105000_4 + t116)), .int .i64 x105001_4]) ?_ 1 _ rfl; (with_reducible repeat (first | refine blk_drewN ?_ _ | refine blk_drew ?_ | refine blk_alloc ?_ _)); refine blk_put (cs := #[.int .i64 x105000_4, .int .i64 x105001_4]) ?_ 0 _ rfl; (with_reducible repeat (first | refine blk_drewN ?_ _ | refine blk_drew ?_ | refine blk_alloc ?_ _)); exact BK104.out) hg (Kd.R_away HO_5.out (fun _ hk => hk.1))); have n1_ := Aside0.mk (blk_grown (g := gb114) (o := .cells #[.int .i64 ((rd_T38 y108 x33_2).f0), .int .i64 ((rd_T38 y108 x33_2).f1)] 38 (0, 0)) (by (with_reducible repeat (first | refine blk_drewN ?_ _ | refine blk_drew ?_ | refine blk_alloc ?_ _)); refine blk_far ?_ NB114_104.out _; (with_reducible repeat (first | refine blk_drewN ?_ _ | refine blk_drew ?_ | refine blk_alloc ?_ _)); refine blk_far ?_ NB114_104.out _; (with_reducible repeat (first | refine blk_drewN ?_ _ | refine blk_drew ?_ | refine blk_alloc ?_ _)); exact BK114.out) hg (Kd.R_away HO_5.out (fun _ hk => hk.2))); have n2_ := Aside0.mk (hb); have n3_ := Aside0.mk (ho); clear BK104; clear BK114; clear HB; clear HO_5; have BK104 := n0_; have BK114 := n1_; have HB := n2_; have HO120 := n3_; clear n0_ n1_ n2_ n3_; clear ho hb hg hat)); try go_wp2_with (first | ((with_reducible refine gate_builtin (b := .append) (xs := #[.tmp 81, .tmp 83]) rfl ?_); (try (refine gate_guard (by rfl) ?_; dsimp only)); at_builtin; refine Kd.R_append k38 (w0 := w) w.heap.size rfl (.tmp 81) (.tmp 83) 24 38 (.agg #[(.int .i64 0), (.int .i64 0)]) 16 rfl Try.underlying24 info38 rfl (by decide) (by omega) u5 x5_4 (⟨wrap64 (x105000_4 + t116), wrap64 (x105001_4 + t117)⟩ : S38) [.int .i64 (wrap64 (x105000_4 + t116)), .int .i64 (wrap64 (x105001_4 + t117))] (fun k_ => k_ ≠ gb104 ∧ k_ ≠ gb114) (fun _ => False) rfl (by first | (go_simp; done) | (go_simp; rfl)) ?aP (fun _ hk => hk.elim) ?aF ?aO ?aB ?aS ?aL ?_; (case aP => exact k38_mkM _ _ _ (⟨wrap64 (x105000_4 + t116), wrap64 (x105001_4 + t117)⟩ : S38)); (case aB => exact (by repeat (first | (with_reducible first | exact HB.out | apply below_alloc | apply pw_below_drewN | apply below_drew1 | refine below_set ?_ GE104.out | refine below_set ?_ GE114.out) | exact HB.out))); (case aF => exact (fun k_ hk => ⟨Kd.freshB (g := gb104) (o := .cells #[.int .i64 (wrap64 (x105000_4 + t116)), .int .i64 (wrap64 (x105001_4 + t117))] 38 (0, 0)) (by (with_reducible repeat (first | refine blk_drewN ?_ _ | refine blk_drew ?_ | refine blk_alloc ?_ _)); refine blk_put (cs := #[.int .i64 (wrap64 (x105000_4 + t116)), .int .i64 x105001_4]) ?_ 1 _ rfl; (with_reducible repeat (first | refine blk_drewN ?_ _ | refine blk_drew ?_ | refine blk_alloc ?_ _)); refine blk_put (cs := #[.int .i64 x105000_4, .int .i64 x105001_4]) ?_ 0 _ rfl; (with_reducible repeat (first | refine blk_drewN ?_ _ | refine blk_drew ?_ | refine blk_alloc ?_ _)); exact BK104.out) k_ hk, Kd.freshB (g := gb114) (o := .cells #[.int .i64 ((rd_T38 y108 x33_2).f0), .int .i64 ((rd_T38 y108 x33_2).f1)] 38 (0, 0)) (by (with_reducible repeat (first | refine blk_drewN ?_ _ | refine blk_drew ?_ | refine blk_alloc ?_ _)); refine blk_far ?_ NB114_104.out _; (with_reducible repeat (first | refine blk_drewN ?_ _ | refine blk_drew ?_ | refine blk_alloc ?_ _)); refine blk_far ?_ NB114_104.out _; (with_reducible repeat (first | refine blk_drewN ?_ _ | refine blk_drew ?_ | refine blk_alloc ?_ _)); exact BK114.out) k_ hk⟩)); (case aO => exact (by (with_reducible repeat (first | apply Kd.R_alloc | apply Kd.R_drewN | apply Kd.R_drew)); exact Kd.R_mono (Kd.R_far (p := ⟨gb104, 1, none⟩) (Kd.R_far (p := ⟨gb104, 0, none⟩) (Kd.R_mono HO_5.out (fun k_ hk => (⟨hk, hk.1⟩ : _ ∧ k_ ≠ gb104))) (fun _ hk => hk.2) (.int .i64 (wrap64 (x105000_4 + t116)))) (fun _ hk => hk.2) (.int .i64 (wrap64 (x105001_4 + t117)))) (fun _ hk => ⟨hk.1.1, hk.1.2⟩))); (case aS => exact (below_size (by repeat (first | (with_reducible first | exact HB.out | apply below_alloc | apply pw_below_drewN | apply below_drew1 | refine below_set ?_ GE104.out | refine below_set ?_ GE114.out) | exact HB.out)))); (case aL => have := LMc52.out; omega); intro v119 w56 ho hb hg hat; rw [← Ny118.out] at ho; have n0_ := Aside0.mk (blk_grown (g := gb104) (o := .cells #[.int .i64 (wrap64 (x105000_4 + t116)), .int .i64 (wrap64 (x105001_4 + t117))] 38 (0, 0)) (by (with_reducible repeat (first | refine blk_drewN ?_ _ | refine blk_drew ?_ | refine blk_alloc ?_ _)); refine blk_put (cs := #[.int .i64 (wrap64 (x105000_4 + t116)), .int .i64 x105001_4]) ?_ 1 _ rfl; (with_reducible repeat (first | refine blk_drewN ?_ _ | refine blk_drew ?_ | refine blk_alloc ?_ _)); refine blk_put (cs := #[.int .i64 x105000_4, .int .i64 x105001_4]) ?_ 0 _ rfl; (with_reducible repeat (first | refine blk_drewN ?_ _ | refine blk_drew ?_ | refine blk_alloc ?_ _)); exact BK104.out) hg (Kd.R_away HO_5.out (fun _ hk => hk.1))); have n1_ := Aside0.mk (blk_grown (g := gb114) (o := .cells #[.int .i64 ((rd_T38 y108 x33_2).f0), .int .i64 ((rd_T38 y108 x33_2).f1)] 38 (0, 0)) (by (with_reducible repeat (first | refine blk_drewN ?_ _ | refine blk_drew ?_ | refine blk_alloc ?_ _)); refine blk_far ?_ NB114_104.out _; (with_reducible repeat (first | refine blk_drewN ?_ _ | refine blk_drew ?_ | refine blk_alloc ?_ _)); refine blk_far ?_ NB114_104.out _; (with_reducible repeat (first | refine blk_drewN ?_ _ | refine blk_drew ?_ | refine blk_alloc ?_ _)); exact BK114.out) hg (Kd.R_away HO_5.out (fun _ hk => hk.2))); have n2_ := Aside0.mk (hb); have n3_ := Aside0.mk (ho); clear BK104; clear BK114; clear HB; clear HO_5; have BK104 := n0_; have BK114 := n1_; have HB := n2_; have HO120 := n3_; clear n0_ n1_ n2_ n3_; clear ho hb hg hat)))
                  go_roundg k4
                  case measure => have := HJ1.out; have := HK2.out; have := HJ18.out; have := HK4.out; omega
                  case rel => exact ⟨(y118), (wrap64 (x105000_4 + t116)), (wrap64 (x105001_4 + t117)), H', ⟨by have := HJ1.out; have := HK2.out; have := HJ18.out; have := HK4.out; omega⟩, ⟨by (with_reducible repeat (first | apply Kd.R_alloc | apply Kd.R_drewN | apply Kd.R_drew)); exact HO120.out⟩, ⟨by (with_reducible repeat (first | refine blk_drewN ?_ _ | refine blk_drew ?_ | refine blk_alloc ?_ _)); exact BK104.out⟩, ⟨by (with_reducible repeat (first | refine blk_drewN ?_ _ | refine blk_drew ?_ | refine blk_alloc ?_ _)); exact BK114.out⟩, ⟨by repeat (first | (with_reducible first | exact HB.out | apply below_alloc | apply pw_below_drewN | apply below_drew1 | refine below_set ?_ GE104.out | refine below_set ?_ GE114.out) | exact HB.out)⟩⟩
                 ·rw [if_neg c52] at H; exact absurd H (by simp)
                ·rw [if_neg c51] at H
                 have c51b0 : (!(x105000_4 == ((rd_T38 y108 x33_2).f0)) || (!(x105001_4 == ((rd_T38 y108 x33_2).f1)))) = false := by simpa using c51
                 clear c51; have H' := Aside0.mk H; clear H; have hnb57 := NB104_114.out; have hnc57 := NB114_104.out; have hcz58_0 : wr.cell? ⟨gb104, 0, none⟩ = some (.int .i64 x105000_4) := (blk_cell BK104.out 0).trans rfl; have hcz58_1 : wr.cell? ⟨gb104, 1, none⟩ = some (.int .i64 x105001_4) := (blk_cell BK104.out 1).trans rfl; have hfz58_0 := blk_frozen BK104.out 0; have hfz58_1 := blk_frozen BK104.out 1; have hcz59_0 : wr.cell? ⟨gb114, 0, none⟩ = some (.int .i64 ((rd_T38 y108 x33_2).f0)) := (blk_cell BK114.out 0).trans rfl; have hcz59_1 : wr.cell? ⟨gb114, 1, none⟩ = some (.int .i64 ((rd_T38 y108 x33_2).f1)) := (blk_cell BK114.out 1).trans rfl; have hfz59_0 := blk_frozen BK114.out 0; have hfz59_1 := blk_frozen BK114.out 1; go_wp2
                 repeat (go_quiet (fail); try go_wp2)
                 go_roundg k4
                 case measure => have := HJ1.out; have := HK2.out; have := HJ18.out; have := HK4.out; omega
                 case rel => exact ⟨(x5_4), (wrap64 (x33_2 + 1)), (x105000_4), (x105001_4), (by first | rfl | (simp; done) | (simp [*]; done)), H', ⟨by have := HJ1.out; have := HK2.out; have := HJ18.out; have := HK4.out; omega⟩, ⟨by (with_reducible repeat (first | apply Kd.R_alloc | apply Kd.R_drewN | apply Kd.R_drew)); exact Kd.R_mono HO_5.out (fun _ hk => hk.1)⟩, ⟨by (with_reducible repeat (first | refine blk_drewN ?_ _ | refine blk_drew ?_ | refine blk_alloc ?_ _)); exact BK104.out⟩, ⟨by repeat (first | (with_reducible first | exact HB.out | apply below_alloc | apply pw_below_drewN | apply below_drew1 | refine below_set ?_ GE104.out | refine below_set ?_ GE114.out) | exact HB.out)⟩⟩
          ·rw [if_neg c18] at H; exact absurd H (by simp)
         ·rw [if_neg c17] at H; exact absurd H (by simp)
        ·rw [if_neg c16] at H
         have c16b0 : decide (x33_2 < (y108.length : Int)) = false := decide_eq_false c16; clear c16; replace H := Option.bind_eq_some_iff.mp H; obtain ⟨t112, A600, H⟩ := H; replace H : (if t112 = true then (some (x5_2, true)) else (some (([] : List (S38)), false))) = some (r1, r2) := H; have A60 := Aside0.mk A600; clear A600
         by_cases c61 : t112 = true
         ·subst c61
          have H1 : (some (x5_2, true)) = some (r1, r2) := by rw [if_pos rfl] at H; exact H
          clear H; have H := H1; clear H1; simp only [Option.some.injEq, Prod.mk.injEq] at H; obtain ⟨rfl, rfl⟩ := H; obtain ⟨Ao62, co62, eo62⟩ := Kd.R_slice HO_5.out; subst eo62; go_wp2_with (first | (go_at_call 30; (with_reducible refine (impl_isPath.calls k2 _ _ x5_2 true _ ?side1 ?side2 A60.out).mono ?_); (case side1 => repeat (first | exact (Kd.R_reads' HO_5.out).2.2 | (with_reducible refine Kd.C_alloc ?_ _) | (with_reducible refine Kd.C_drewN ?_ _) | (with_reducible refine Kd.C_drew ?_))); (case side2 => exact (Kd.R_reads' HO_5.out).2.1); rintro e w63 ⟨rfl, hb⟩; have n0_ := Aside0.mk (Kd.R_below (by (with_reducible repeat (first | apply Kd.R_alloc | apply Kd.R_drewN | apply Kd.R_drew)); exact HO_5.out) hb); have n1_ := Aside0.mk (blk_below (g := gb104) (o := .cells #[.int .i64 x105000_2, .int .i64 x105001_2] 38 (0, 0)) (by (with_reducible repeat (first | refine blk_drewN ?_ _ | refine blk_drew ?_ | refine blk_alloc ?_ _)); exact BK104.out) hb); have n2_ := Aside0.mk (below_step (by repeat (first | (with_reducible first | exact HB.out | apply below_alloc | apply pw_below_drewN | apply below_drew1 | refine below_set ?_ GE104.out) | exact HB.out)) hb); clear HO_5; clear BK104; clear HB; have HO_5 := n0_; have BK104 := n1_; have HB := n2_; clear n0_ n1_ n2_; (try clear hb); (try clear hb2); (try clear hk); (try clear hi)))
          repeat (go_quiet (first | (go_at_call 30; (with_reducible refine (impl_isPath.calls k2 _ _ x5_2 true _ ?side1 ?side2 A60.out).mono ?_); (case side1 => repeat (first | exact (Kd.R_reads' HO_5.out).2.2 | (with_reducible refine Kd.C_alloc ?_ _) | (with_reducible refine Kd.C_drewN ?_ _) | (with_reducible refine Kd.C_drew ?_))); (case side2 => exact (Kd.R_reads' HO_5.out).2.1); rintro e w63 ⟨rfl, hb⟩; have n0_ := Aside0.mk (Kd.R_below (by (with_reducible repeat (first | apply Kd.R_alloc | apply Kd.R_drewN | apply Kd.R_drew)); exact HO_5.out) hb); have n1_ := Aside0.mk (blk_below (g := gb104) (o := .cells #[.int .i64 x105000_2, .int .i64 x105001_2] 38 (0, 0)) (by (with_reducible repeat (first | refine blk_drewN ?_ _ | refine blk_drew ?_ | refine blk_alloc ?_ _)); exact BK104.out) hb); have n2_ := Aside0.mk (below_step (by repeat (first | (with_reducible first | exact HB.out | apply below_alloc | apply pw_below_drewN | apply below_drew1 | refine below_set ?_ GE104.out) | exact HB.out)) hb); clear HO_5; clear BK104; clear HB; have HO_5 := n0_; have BK104 := n1_; have HB := n2_; clear n0_ n1_ n2_; (try clear hb); (try clear hb2); (try clear hk); (try clear hi))); try go_wp2_with (first | (go_at_call 30; (with_reducible refine (impl_isPath.calls k2 _ _ x5_2 true _ ?side1 ?side2 A60.out).mono ?_); (case side1 => repeat (first | exact (Kd.R_reads' HO_5.out).2.2 | (with_reducible refine Kd.C_alloc ?_ _) | (with_reducible refine Kd.C_drewN ?_ _) | (with_reducible refine Kd.C_drew ?_))); (case side2 => exact (Kd.R_reads' HO_5.out).2.1); rintro e w63 ⟨rfl, hb⟩; have n0_ := Aside0.mk (Kd.R_below (by (with_reducible repeat (first | apply Kd.R_alloc | apply Kd.R_drewN | apply Kd.R_drew)); exact HO_5.out) hb); have n1_ := Aside0.mk (blk_below (g := gb104) (o := .cells #[.int .i64 x105000_2, .int .i64 x105001_2] 38 (0, 0)) (by (with_reducible repeat (first | refine blk_drewN ?_ _ | refine blk_drew ?_ | refine blk_alloc ?_ _)); exact BK104.out) hb); have n2_ := Aside0.mk (below_step (by repeat (first | (with_reducible first | exact HB.out | apply below_alloc | apply pw_below_drewN | apply below_drew1 | refine below_set ?_ GE104.out) | exact HB.out)) hb); clear HO_5; clear BK104; clear HB; have HO_5 := n0_; have BK104 := n1_; have HB := n2_; clear n0_ n1_ n2_; (try clear hb); (try clear hb2); (try clear hk); (try clear hi))))
          go_ret2
          exact ⟨_, by first | rfl | (simp [errW_none, errW_some] <;> rfl) | (simp [*, errW_none, errW_some] <;> rfl), by (with_reducible repeat (first | apply Kd.R_alloc | apply Kd.R_drewN | apply Kd.R_drew)); exact Kd.R_mono HO_5.out (fun _ hk => trivial), by repeat (first | (with_reducible first | exact HB.out | apply below_alloc | apply pw_below_drewN | apply below_drew1 | refine below_set ?_ GE104.out) | exact HB.out)⟩
         ·replace c61 := Bool.eq_false_iff.mpr c61
          subst c61
          have H1 : (some (([] : List (S38)), false)) = some (r1, r2) := by rw [if_neg (show ¬ (false = true) by decide)] at H; exact H
          clear H; have H := H1; clear H1; simp only [Option.some.injEq, Prod.mk.injEq] at H; obtain ⟨rfl, rfl⟩ := H; obtain ⟨Ao64, co64, eo64⟩ := Kd.R_slice HO_5.out; subst eo64; go_wp2_with (first | (go_at_call 30; (with_reducible refine (impl_isPath.calls k2 _ _ x5_2 false _ ?side1 ?side2 A60.out).mono ?_); (case side1 => repeat (first | exact (Kd.R_reads' HO_5.out).2.2 | (with_reducible refine Kd.C_alloc ?_ _) | (with_reducible refine Kd.C_drewN ?_ _) | (with_reducible refine Kd.C_drew ?_))); (case side2 => exact (Kd.R_reads' HO_5.out).2.1); rintro e w65 ⟨rfl, hb⟩; have n0_ := Aside0.mk (Kd.R_below (by (with_reducible repeat (first | apply Kd.R_alloc | apply Kd.R_drewN | apply Kd.R_drew)); exact HO_5.out) hb); have n1_ := Aside0.mk (blk_below (g := gb104) (o := .cells #[.int .i64 x105000_2, .int .i64 x105001_2] 38 (0, 0)) (by (with_reducible repeat (first | refine blk_drewN ?_ _ | refine blk_drew ?_ | refine blk_alloc ?_ _)); exact BK104.out) hb); have n2_ := Aside0.mk (below_step (by repeat (first | (with_reducible first | exact HB.out | apply below_alloc | apply pw_below_drewN | apply below_drew1 | refine below_set ?_ GE104.out) | exact HB.out)) hb); clear HO_5; clear BK104; clear HB; have HO_5 := n0_; have BK104 := n1_; have HB := n2_; clear n0_ n1_ n2_; (try clear hb); (try clear hb2); (try clear hk); (try clear hi)))
          repeat (go_quiet (first | (go_at_call 30; (with_reducible refine (impl_isPath.calls k2 _ _ x5_2 false _ ?side1 ?side2 A60.out).mono ?_); (case side1 => repeat (first | exact (Kd.R_reads' HO_5.out).2.2 | (with_reducible refine Kd.C_alloc ?_ _) | (with_reducible refine Kd.C_drewN ?_ _) | (with_reducible refine Kd.C_drew ?_))); (case side2 => exact (Kd.R_reads' HO_5.out).2.1); rintro e w65 ⟨rfl, hb⟩; have n0_ := Aside0.mk (Kd.R_below (by (with_reducible repeat (first | apply Kd.R_alloc | apply Kd.R_drewN | apply Kd.R_drew)); exact HO_5.out) hb); have n1_ := Aside0.mk (blk_below (g := gb104) (o := .cells #[.int .i64 x105000_2, .int .i64 x105001_2] 38 (0, 0)) (by (with_reducible repeat (first | refine blk_drewN ?_ _ | refine blk_drew ?_ | refine blk_alloc ?_ _)); exact BK104.out) hb); have n2_ := Aside0.mk (below_step (by repeat (first | (with_reducible first | exact HB.out | apply below_alloc | apply pw_below_drewN | apply below_drew1 | refine below_set ?_ GE104.out) | exact HB.out)) hb); clear HO_5; clear BK104; clear HB; have HO_5 := n0_; have BK104 := n1_; have HB := n2_; clear n0_ n1_ n2_; (try clear hb); (try clear hb2); (try clear hk); (try clear hi))); try go_wp2_with (first | (go_at_call 30; (with_reducible refine (impl_isPath.calls k2 _ _ x5_2 false _ ?side1 ?side2 A60.out).mono ?_); (case side1 => repeat (first | exact (Kd.R_reads' HO_5.out).2.2 | (with_reducible refine Kd.C_alloc ?_ _) | (with_reducible refine Kd.C_drewN ?_ _) | (with_reducible refine Kd.C_drew ?_))); (case side2 => exact (Kd.R_reads' HO_5.out).2.1); rintro e w65 ⟨rfl, hb⟩; have n0_ := Aside0.mk (Kd.R_below (by (with_reducible repeat (first | apply Kd.R_alloc | apply Kd.R_drewN | apply Kd.R_drew)); exact HO_5.out) hb); have n1_ := Aside0.mk (blk_below (g := gb104) (o := .cells #[.int .i64 x105000_2, .int .i64 x105001_2] 38 (0, 0)) (by (with_reducible repeat (first | refine blk_drewN ?_ _ | refine blk_drew ?_ | refine blk_alloc ?_ _)); exact BK104.out) hb); have n2_ := Aside0.mk (below_step (by repeat (first | (with_reducible first | exact HB.out | apply below_alloc | apply pw_below_drewN | apply below_drew1 | refine below_set ?_ GE104.out) | exact HB.out)) hb); clear HO_5; clear BK104; clear HB; have HO_5 := n0_; have BK104 := n1_; have HB := n2_; clear n0_ n1_ n2_; (try clear hb); (try clear hb2); (try clear hk); (try clear hi))))
          go_ret2
          exact ⟨_, by first | rfl | (simp [errW_none, errW_some] <;> rfl) | (simp [*, errW_none, errW_some] <;> rfl), by first | exact Kd.R_nil _ _ _ _ _ | exact Kd.N_nil _ _ _ _ _ | exact Kd.V_nil _ _ _ _ _ | exact Kd.Q_nil _ _ _ _ _ | exact Kd.S_nil _ _ _ _ _, by repeat (first | (with_reducible first | exact HB.out | apply below_alloc | apply pw_below_drewN | apply below_drew1 | refine below_set ?_ GE104.out) | exact HB.out)⟩
     ·rw [if_neg c10] at H; exact absurd H (by simp)
    ·rw [if_neg c9] at H; exact absurd H (by simp)

end Go.Proofs.Ytdacpdhpifocbaa.P

namespace Go.Proofs.Ytdacpdhpifocbaa.P
open Go.RowKit Go.Proofs.YtdacpdhpifocbaaW.PrintWords Go.Proofs.YtdacpdhpifocbaaW.PrintLast Go.Proofs.YtdacpdhpifocbaaW.PrintMore
attribute [local go_sem] max2_int min2_int max_two min_two max_three min_three max_four min_four   -- for this text's walks alone
set_option linter.unusedVariables false
set_option linter.unusedSimpArgs false

/-- A state of type 57 at block g of W; what its slices lead to came in by w0. -/
def IsS57 (w0 W : World) (g : Nat) (f0 : List Int) (f1 : Int) : Prop := ∃ A0 c0, W.heap[g]? = some (.cells #[.slice A0 f0.length c0, .int .i64 f1] 57 (0, 0)) ∧ w0.heap.size ≤ g ∧ Kd.C (Kd.int .u8) w0 A0 f0.length f0
theorem IsS57.grown {w0 W : World} {g : Nat} {f0 : List Int} {f1 : Int} {W1 : World} {row : Option Nat} (h : IsS57 w0 W g f0 f1) (hw : W.grownBy W1 row) (hne : some g ≠ row) : IsS57 w0 W1 g f0 f1 := by
  obtain ⟨A0, c0, hb, hg, hr0⟩ := h
  exact ⟨A0, c0, blk_grown hb hw hne, hg, hr0⟩
theorem IsS57.own_neN {w0 W : World} {g : Nat} {f0 : List Int} {f1 : Int} {α : Type} {d : Kd α} {e : Nat} {base : Nat} {ok : Nat → Prop} {v : Value} {xs : List α} (h : IsS57 w0 W g f0 f1) (ho : Kd.N d e W base ok v xs) (ht : e ≠ 57) : some g ≠ v.ownBlock := by
  obtain ⟨A0, c0, hb, hg, hr0⟩ := h
  exact Kd.N_ne ho hb ht
theorem IsS57.fresh {w0 W : World} {g : Nat} {f0 : List Int} {f1 : Int} (h : IsS57 w0 W g f0 f1) : ∀ k, W.heap.size ≤ k → k ≠ g := by
  obtain ⟨A0, c0, hb, hg, hr0⟩ := h
  exact Kd.freshB hb
theorem IsS57.kept {w0 W : World} {g : Nat} {f0 : List Int} {f1 : Int} {W1 : World} {S : Nat → Prop} (h : IsS57 w0 W g f0 f1) (hk : Kept W W1 S) (hne : ¬ S g) : IsS57 w0 W1 g f0 f1 := by
  obtain ⟨A0, c0, hb, hg, hr0⟩ := h
  exact ⟨A0, c0, blk_kept hb hk hne, hg, hr0⟩
theorem IsS57.below {w0 W : World} {g : Nat} {f0 : List Int} {f1 : Int} {W1 : World} (h : IsS57 w0 W g f0 f1) (hw : Below W.heap.size W W1) : IsS57 w0 W1 g f0 f1 := h.grown (grown_of_below hw none) (by simp)
theorem IsS57.alloc {w0 W : World} {g : Nat} {f0 : List Int} {f1 : Int} (h : IsS57 w0 W g f0 f1) (o : Obj) : IsS57 w0 (W.alloc o) g f0 f1 := h.below (below_alloc (Below.refl _ _) o)
theorem IsS57.drewN {w0 W : World} {g : Nat} {f0 : List Int} {f1 : Int} (h : IsS57 w0 W g f0 f1) (m : Nat) : IsS57 w0 (W.drewN m) g f0 f1 := h
theorem IsS57.drew {w0 W : World} {g : Nat} {f0 : List Int} {f1 : Int} (h : IsS57 w0 W g f0 f1) : IsS57 w0 W.drew g f0 f1 := h
theorem IsS57.at_ {w0 W : World} {g : Nat} {f0 : List Int} {f1 : Int} {w' : World} {m : Nat} (hq : W.drewN m = w') (h : IsS57 w0 W g f0 f1) : IsS57 w0 w' g f0 f1 := by subst hq; exact IsS57.drewN h m
theorem IsS57.apart {w0 W : World} {g : Nat} {f0 : List Int} {f1 : Int} {α : Type} {d : Kd α} {e : Nat} {base : Nat} {ok : Nat → Prop} {v : Value} {xs : List α} (h : IsS57 w0 W g f0 f1) (ho : d.R e W base ok v xs) (ht : ∀ q, q ∈ e :: d.E → q ≠ 57) : d.R e W base (fun k => ok k ∧ k ≠ g) v xs := by
  obtain ⟨A0, c0, hb, hg, hr0⟩ := h
  exact Kd.R_types ho hb ht
theorem IsS57.own_ne {w0 W : World} {g : Nat} {f0 : List Int} {f1 : Int} {α : Type} {d : Kd α} {e : Nat} {base : Nat} {ok : Nat → Prop} {v : Value} {xs : List α} (h : IsS57 w0 W g f0 f1) (ho : d.R e W base ok v xs) (ht : e ≠ 57) : some g ≠ v.ownBlock := by
  obtain ⟨A0, c0, hb, hg, hr0⟩ := h
  exact Kd.R_ne ho hb ht
theorem IsS57.apartQ {w0 W : World} {g : Nat} {f0 : List Int} {f1 : Int} {α : Type} {d : Kd α} {e : Nat} {base : Nat} {ok : Nat → Prop} {v : Value} {xs : List α} (h : IsS57 w0 W g f0 f1) (ho : d.Q e W base ok v xs) (ht : ∀ q, q ∈ e :: d.E → q ≠ 57) : d.Q e W base (fun k => ok k ∧ k ≠ g) v xs := by
  obtain ⟨A0, c0, hb, hg, hr0⟩ := h
  exact Kd.Q_types ho hb ht
theorem IsS57.own_neQ {w0 W : World} {g : Nat} {f0 : List Int} {f1 : Int} {α : Type} {d : Kd α} {e : Nat} {base : Nat} {ok : Nat → Prop} {v : Value} {xs : List α} (h : IsS57 w0 W g f0 f1) (ho : d.Q e W base ok v xs) (ht : e ≠ 57) : some g ≠ v.ownBlock := by
  obtain ⟨A0, c0, hb, hg, hr0⟩ := h
  exact Kd.Q_ne ho hb ht
theorem IsS57.apartS {w0 W : World} {g : Nat} {f0 : List Int} {f1 : Int} {α : Type} {d : Kd α} {e : Nat} {base : Nat} {ok : Nat → Prop} {v : Value} {xs : List α} (h : IsS57 w0 W g f0 f1) (ho : d.S e W base ok v xs) (ht : ∀ q, q ∈ e :: d.E → q ≠ 57) : d.S e W base (fun k => ok k ∧ k ≠ g) v xs := by
  obtain ⟨A0, c0, hb, hg, hr0⟩ := h
  exact Kd.S_types ho hb ht
theorem IsS57.own_neS {w0 W : World} {g : Nat} {f0 : List Int} {f1 : Int} {α : Type} {d : Kd α} {e : Nat} {base : Nat} {ok : Nat → Prop} {v : Value} {xs : List α} (h : IsS57 w0 W g f0 f1) (ho : d.S e W base ok v xs) (ht : e ≠ 57) : some g ≠ v.ownBlock := by
  obtain ⟨A0, c0, hb, hg, hr0⟩ := h
  exact Kd.S_ne ho hb ht
theorem IsS57.lt {w0 W : World} {g : Nat} {f0 : List Int} {f1 : Int} (h : IsS57 w0 W g f0 f1) : g < W.heap.size := by
  obtain ⟨A0, c0, hb, hg, hr0⟩ := h
  exact blk_lt hb
theorem IsS57.ge {w0 W : World} {g : Nat} {f0 : List Int} {f1 : Int} (h : IsS57 w0 W g f0 f1) : w0.heap.size ≤ g := by
  obtain ⟨A0, c0, hb, hg, hr0⟩ := h
  exact hg
theorem IsS57.ne_blk {w0 W : World} {g : Nat} {f0 : List Int} {f1 : Int} {a : Nat} {cs : Array Value} {t : TypeId} {fr : Nat × Nat} (h : IsS57 w0 W g f0 f1) (hb2 : W.heap[a]? = some (.cells cs t fr)) (ht : t ≠ 57) : g ≠ a := by
  obtain ⟨A0, c0, hb, hg, hr0⟩ := h
  rintro rfl
  rw [hb] at hb2
  injection hb2 with hb2
  injection hb2 with _ ht2
  exact ht ht2.symm
theorem IsS57.far {w0 W : World} {g : Nat} {f0 : List Int} {f1 : Int} {p : Addr} (h : IsS57 w0 W g f0 f1) (hne : g ≠ p.block) (u : Value) : IsS57 w0 (W.setCell p u) g f0 f1 := by
  obtain ⟨A0, c0, hb, hg, hr0⟩ := h
  exact ⟨A0, c0, blk_far hb hne u, hg, hr0⟩
theorem cellS57_0 {W : World} {g : Nat} {A0 : Option Addr} {c0 : Nat} {f0 : List Int} {f1 : Int} (h : W.heap[g]? = some (.cells #[.slice A0 f0.length c0, .int .i64 f1] 57 (0, 0))) : W.cell? ⟨g, 0, none⟩ = some (.slice A0 f0.length c0) := (blk_cell h 0).trans rfl
theorem cellS57_1 {W : World} {g : Nat} {A0 : Option Addr} {c0 : Nat} {f0 : List Int} {f1 : Int} (h : W.heap[g]? = some (.cells #[.slice A0 f0.length c0, .int .i64 f1] 57 (0, 0))) : W.cell? ⟨g, 1, none⟩ = some (.int .i64 f1) := (blk_cell h 1).trans rfl
theorem IsS57.set_1 {w0 W : World} {g : Nat} {f0 : List Int} {f1 : Int} (h : IsS57 w0 W g f0 f1) (x : Int) : IsS57 w0 (W.setCell ⟨g, 1, none⟩ (.int .i64 x)) g f0 x := by
  obtain ⟨A0, c0, hb, hg, hr0⟩ := h
  exact ⟨A0, c0, by simpa using blk_set hb 1 (.int .i64 x), hg, hr0⟩
theorem IsS57.new (w0 W : World) (A0 : Option Addr) (c0 : Nat) (f0 : List Int) (f1 : Int) (hB : Below w0.heap.size w0 W) (hr0 : Kd.C (Kd.int .u8) w0 A0 f0.length f0) : IsS57 w0 (W.alloc (.cells #[.slice A0 f0.length c0, .int .i64 f1] 57)) W.heap.size f0 f1 := ⟨A0, c0, by simpa using heap_alloc_new W _, hB.size, hr0⟩

/-! ### spec_l6Rd_pick: function 38 -/
def spec_l6Rd_pick.j0 : Nat → Int → Bool → List Int → Int → Option (Int × Int)
  | 0, _, _, _, _ => none
  | k + 1, x1, x24, x1000, x1001 => if x24 = true then (some (0, x1001)) else (if (wrap64 (x1001 - 1)) < (x1000.length : Int) then (if 0 ≤ (wrap64 (x1001 - 1)) then (if x1 = 0 then (none) else (some (Int.tmod (wrap64 (rd x1000 (wrap64 (x1001 - 1)))) x1, x1001))) else (none)) else (if (x1000.length : Int) = 0 then (none) else (if 0 ≤ (Int.tmod (wrap64 (x1001 - 1)) (x1000.length : Int)) then (if (Int.tmod (wrap64 (x1001 - 1)) (x1000.length : Int)) < (x1000.length : Int) then (if 0 ≤ (Int.tmod (wrap64 ((wrap64 ((wrap64 (x1001 - 1)) * 7)) + 3)) (x1000.length : Int)) then (if (Int.tmod (wrap64 ((wrap64 ((wrap64 (x1001 - 1)) * 7)) + 3)) (x1000.length : Int)) < (x1000.length : Int) then (if x1 = 0 then (none) else (some (Int.tmod (Go.bits .xor .i64 (wrap64 ((wrap64 ((wrap64 ((wrap64 ((wrap64 (rd x1000 (Int.tmod (wrap64 (x1001 - 1)) (x1000.length : Int)))) * 131)) + (wrap64 ((wrap64 (rd x1000 (Int.tmod (wrap64 ((wrap64 ((wrap64 (x1001 - 1)) * 7)) + 3)) (x1000.length : Int)))) * 1117)))) + (wrap64 ((wrap64 (x1001 - 1)) * 29)))) + (wrap64 ((wrap64 (Int.tdiv (wrap64 (x1001 - 1)) (x1000.length : Int))) * 53)))) (wrap64 (Int.tdiv (wrap64 ((wrap64 ((wrap64 ((wrap64 ((wrap64 (rd x1000 (Int.tmod (wrap64 (x1001 - 1)) (x1000.length : Int)))) * 131)) + (wrap64 ((wrap64 (rd x1000 (Int.tmod (wrap64 ((wrap64 ((wrap64 (x1001 - 1)) * 7)) + 3)) (x1000.length : Int)))) * 1117)))) + (wrap64 ((wrap64 (x1001 - 1)) * 29)))) + (wrap64 ((wrap64 (Int.tdiv (wrap64 (x1001 - 1)) (x1000.length : Int))) * 53)))) 64))) x1, x1001))) else (none)) else (none)) else (none)) else (none))))
def spec_l6Rd_pick.f (k : Nat) (s0_0 : List Int) (s0_1 : Int) (a1 : Int) : Option (Int × Int) := if a1 < 1 then (spec_l6Rd_pick.j0 k a1 true s0_0 (wrap64 (s0_1 + 1))) else (spec_l6Rd_pick.j0 k a1 ((s0_0.length : Int) == 0) s0_0 (wrap64 (s0_1 + 1)))
theorem spec_l6Rd_pick.mono_l : ∀ k, (∀ y0 y1 y2 y3, LeO (spec_l6Rd_pick.j0 k y0 y1 y2 y3) (spec_l6Rd_pick.j0 (k + 1) y0 y1 y2 y3))
  | 0 => fun _ _ _ _ r h => by simp [spec_l6Rd_pick.j0] at h
  | k + 1 => by
    have ih0 := spec_l6Rd_pick.mono_l k
    · intro y0 y1 y2 y3
      unfold spec_l6Rd_pick.j0
      repeat' first
      | (with_reducible exact ih0 _ _ _ _)
      | (with_reducible exact LeO.refl _)
      | (with_reducible exact LeO.none _)
      | (with_reducible refine LeO.ite ?_ ?_)
      | (with_reducible refine LeO.bind ?_ (fun _ => ?_))
      | exact ih0 _ _ _ _
      | exact LeO.none _
      | refine LeO.ite ?_ ?_
      | refine LeO.bind ?_ (fun _ => ?_)
theorem spec_l6Rd_pick.mono : ∀ a0 a1 a2 k, LeO (spec_l6Rd_pick.f k a0 a1 a2) (spec_l6Rd_pick.f (k + 1) a0 a1 a2) := by
  intro a0 a1 a2 k
  have ih0 := spec_l6Rd_pick.mono_l k
  unfold spec_l6Rd_pick.f
  repeat' first
      | (with_reducible exact ih0 _ _ _ _)
      | (with_reducible exact LeO.refl _)
      | (with_reducible exact LeO.none _)
      | (with_reducible refine LeO.ite ?_ ?_)
      | (with_reducible refine LeO.bind ?_ (fun _ => ?_))
      | exact ih0 _ _ _ _
      | exact LeO.none _
      | refine LeO.ite ?_ ?_
      | refine LeO.bind ?_ (fun _ => ?_)
set_option maxHeartbeats 8000000 in
set_option maxRecDepth 100000 in
theorem spec_l6Rd_pick.calls (k : Nat) (g : Nat) (s0_0 : List Int) (s0_1 : Int) (a1 : Int) (r1 : Int) (r2 : Int) (w0 w : World) (hI : IsS57 w0 w g s0_0 s0_1) (hB : Below w0.heap.size w0 w) (h : spec_l6Rd_pick.f k s0_0 s0_1 a1 = some (r1, r2)) :
  Calls Try.prog 38 #[.pointer (some ⟨g, 0, none⟩), .int .i64 a1] w fun e w' => e = .returned (.int .i64 r1) ∧ IsS57 w0 w' g s0_0 r2 ∧ Below w0.heap.size w0 w' ∧ KeepBut w w' g none := by
 have HI0 := Aside0.mk hI; have HK := Aside0.mk (KeepBut.refl w g none); have HL := Aside0.mk hB.size; clear hI; have HW0 := Aside0.mk hB.size; have HB := Aside0.mk hB; clear hB; have H : (if a1 < 1 then (spec_l6Rd_pick.j0 k a1 true s0_0 (wrap64 (s0_1 + 1))) else (spec_l6Rd_pick.j0 k a1 ((s0_0.length : Int) == 0) s0_0 (wrap64 (s0_1 + 1)))) = some (r1, r2) := h; clear h; have HC3 := Aside0.mk H; clear H; obtain ⟨ASz4_0, cSz4_0, HGz4, hgz4, HSz4_0⟩ := HI0.out; have hcz4_0 := cellS57_0 HGz4; have hcz4_1 := cellS57_1 HGz4; have hfz4_1 := blk_frozen HGz4 1; clear HGz4 hgz4; go_enter Try.func38, Try.ntmps38; go_upto_region 2 with (fail)
 repeat (go_quiet (fail); go_upto_region 2 with (fail))
 go_cut [24] (fun v24 wc => ∃ (kq : Nat) (x24_2 : Bool), v24 = .bool x24_2 ∧ Aside0 (spec_l6Rd_pick.j0 kq a1 x24_2 s0_0 (wrap64 (s0_1 + 1)) = some (r1, r2)) ∧ Aside0 (kq ≤ k) ∧ Aside0 (IsS57 w0 wc g s0_0 (wrap64 (s0_1 + 1))) ∧ Aside0 (KeepBut w wc g none) ∧ Aside0 (Below w0.heap.size w0 wc))
 case first =>
  have H := HC3.out; clear HC3
  by_cases c5 : a1 < 1
  ·rw [if_pos c5] at H
   have c5b0 : decide (a1 < 1) = true := decide_eq_true c5; clear c5; (first | rw [c5b0] | (simp only [i64_w, i32_w]; rw [c5b0]) | skip); have H' := Aside0.mk H; clear H; go_wp2
   repeat (go_quiet (fail); try go_wp2)
   go_meet
   case rel => exact ⟨_, (true), (by first | rfl | (simp; done) | (simp [*]; done)), H', ⟨by first | omega | exact Nat.le_refl _⟩, ⟨by repeat (first | (with_reducible first | exact HI0.out | apply IsS57.alloc | apply IsS57.drewN | apply IsS57.drew | apply IsS57.set_1) | exact HI0.out)⟩, ⟨by repeat (first | (with_reducible first | exact HK.out | apply KeepBut.set_ | apply keep_drewN | apply keep_drew | apply keep_alloc) | exact HK.out)⟩, ⟨by repeat (first | (with_reducible first | exact HB.out | apply below_alloc | apply pw_below_drewN | apply below_drew1 | refine below_set ?_ (IsS57.ge HI0.out)) | exact HB.out)⟩⟩
  ·rw [if_neg c5] at H
   have c5b0 : decide (a1 < 1) = false := decide_eq_false c5; clear c5; (first | rw [c5b0] | (simp only [i64_w, i32_w]; rw [c5b0]) | skip); have H' := Aside0.mk H; clear H; obtain ⟨ASz6_0, cSz6_0, HGz6, hgz6, HSz6_0⟩ := HI0.out; have hcz6_0 := cellS57_0 HGz6; have hcz6_1 := cellS57_1 HGz6; have hfz6_1 := blk_frozen HGz6 1; clear HGz6 hgz6; go_wp2
   repeat (go_quiet (fail); try go_wp2)
   go_meet
   case rel => exact ⟨_, (((s0_0.length : Int) == 0)), (by first | rfl | (simp; done) | (simp [*]; done)), H', ⟨by first | omega | exact Nat.le_refl _⟩, ⟨by repeat (first | (with_reducible first | exact HI0.out | apply IsS57.alloc | apply IsS57.drewN | apply IsS57.drew | apply IsS57.set_1) | exact HI0.out)⟩, ⟨by repeat (first | (with_reducible first | exact HK.out | apply KeepBut.set_ | apply keep_drewN | apply keep_drew | apply keep_alloc) | exact HK.out)⟩, ⟨by repeat (first | (with_reducible first | exact HB.out | apply below_alloc | apply pw_below_drewN | apply below_drew1 | refine below_set ?_ (IsS57.ge HI0.out)) | exact HB.out)⟩⟩
 case rest =>
  clear HC3
  try clear p2
  try clear c3
  try clear c5
  try clear c5b0
  try clear p6
  try clear hcz4_0
  try clear hcz4_1
  try clear hcz6_0
  try clear hcz6_1
  try clear hfz4_1
  try clear hfz6_1
  obtain ⟨kq, x24_2, rfl, HA, HJ2, HI0, HK, HB⟩ := hcut
  cases kq with
  | zero => exact absurd HA.out (by simp [spec_l6Rd_pick.j0])
  | succ kj2 =>
   have H := HA.out; clear HA; simp only [spec_l6Rd_pick.j0] at H
   by_cases c7 : x24_2 = true
   ·subst c7
    have H1 : (some (0, (wrap64 (s0_1 + 1)))) = some (r1, r2) := by rw [if_pos rfl] at H; exact H
    clear H; have H := H1; clear H1; simp only [Option.some.injEq, Prod.mk.injEq] at H; obtain ⟨rfl, rfl⟩ := H; go_wp2
    repeat (go_quiet (fail); try go_wp2)
    go_ret
    exact ⟨by first | rfl | (simp [errW_none, errW_some] <;> rfl) | (simp [*, errW_none, errW_some] <;> rfl), by repeat (first | (with_reducible first | exact HI0.out | apply IsS57.alloc | apply IsS57.drewN | apply IsS57.drew | apply IsS57.set_1) | exact HI0.out), by repeat (first | (with_reducible first | exact HB.out | apply below_alloc | apply pw_below_drewN | apply below_drew1 | refine below_set ?_ (IsS57.ge HI0.out)) | exact HB.out), by repeat (first | (with_reducible first | exact HK.out | apply KeepBut.set_ | apply keep_drewN | apply keep_drew | apply keep_alloc) | exact HK.out)⟩
   ·replace c7 := Bool.eq_false_iff.mpr c7
    subst c7
    have H1 : (if (wrap64 ((wrap64 (s0_1 + 1)) - 1)) < (s0_0.length : Int) then (if 0 ≤ (wrap64 ((wrap64 (s0_1 + 1)) - 1)) then (if a1 = 0 then (none) else (some (Int.tmod (wrap64 (rd s0_0 (wrap64 ((wrap64 (s0_1 + 1)) - 1)))) a1, (wrap64 (s0_1 + 1))))) else (none)) else (if (s0_0.length : Int) = 0 then (none) else (if 0 ≤ (Int.tmod (wrap64 ((wrap64 (s0_1 + 1)) - 1)) (s0_0.length : Int)) then (if (Int.tmod (wrap64 ((wrap64 (s0_1 + 1)) - 1)) (s0_0.length : Int)) < (s0_0.length : Int) then (if 0 ≤ (Int.tmod (wrap64 ((wrap64 ((wrap64 ((wrap64 (s0_1 + 1)) - 1)) * 7)) + 3)) (s0_0.length : Int)) then (if (Int.tmod (wrap64 ((wrap64 ((wrap64 ((wrap64 (s0_1 + 1)) - 1)) * 7)) + 3)) (s0_0.length : Int)) < (s0_0.length : Int) then (if a1 = 0 then (none) else (some (Int.tmod (Go.bits .xor .i64 (wrap64 ((wrap64 ((wrap64 ((wrap64 ((wrap64 (rd s0_0 (Int.tmod (wrap64 ((wrap64 (s0_1 + 1)) - 1)) (s0_0.length : Int)))) * 131)) + (wrap64 ((wrap64 (rd s0_0 (Int.tmod (wrap64 ((wrap64 ((wrap64 ((wrap64 (s0_1 + 1)) - 1)) * 7)) + 3)) (s0_0.length : Int)))) * 1117)))) + (wrap64 ((wrap64 ((wrap64 (s0_1 + 1)) - 1)) * 29)))) + (wrap64 ((wrap64 (Int.tdiv (wrap64 ((wrap64 (s0_1 + 1)) - 1)) (s0_0.length : Int))) * 53)))) (wrap64 (Int.tdiv (wrap64 ((wrap64 ((wrap64 ((wrap64 ((wrap64 (rd s0_0 (Int.tmod (wrap64 ((wrap64 (s0_1 + 1)) - 1)) (s0_0.length : Int)))) * 131)) + (wrap64 ((wrap64 (rd s0_0 (Int.tmod (wrap64 ((wrap64 ((wrap64 ((wrap64 (s0_1 + 1)) - 1)) * 7)) + 3)) (s0_0.length : Int)))) * 1117)))) + (wrap64 ((wrap64 ((wrap64 (s0_1 + 1)) - 1)) * 29)))) + (wrap64 ((wrap64 (Int.tdiv (wrap64 ((wrap64 (s0_1 + 1)) - 1)) (s0_0.length : Int))) * 53)))) 64))) a1, (wrap64 (s0_1 + 1))))) else (none)) else (none)) else (none)) else (none)))) = some (r1, r2) := by rw [if_neg (show ¬ (false = true) by decide)] at H; exact H
    clear H; have H := H1; clear H1
    by_cases c8 : (wrap64 ((wrap64 (s0_1 + 1)) - 1)) < (s0_0.length : Int)
    ·rw [if_pos c8] at H
     have c8b0 : decide ((wrap64 ((wrap64 (s0_1 + 1)) - 1)) < (s0_0.length : Int)) = true := decide_eq_true c8; clear c8; obtain ⟨ji9, hji9⟩ : ∃ j_ : Int, (wrap64 ((wrap64 (s0_1 + 1)) - 1)) = j_ := ⟨_, rfl⟩
     replace H : (if 0 ≤ (ji9) then (if a1 = 0 then (none) else (some (Int.tmod (wrap64 (rd s0_0 (ji9))) a1, (wrap64 (s0_1 + 1))))) else (none)) = some (r1, r2) := by first | (rw [hji9] at H; exact H) | (simp only [hji9] at H ⊢; exact H)
     (try rw [hji9] at c8b0); have hji9w : (IntKind.i64.wrap ((wrap64 (s0_1 + 1)) - 1)) = ji9 := (i64_w _).trans hji9
     by_cases c10 : 0 ≤ (ji9)
     ·rw [if_pos c10] at H
      have c10b0 : decide (0 ≤ (ji9)) = true := decide_eq_true c10; clear c10
      by_cases c11 : a1 = 0
      ·rw [if_pos c11] at H; exact absurd H (by simp)
      ·rw [if_neg c11] at H
       have c11b0 : (a1 == 0) = false := beq_eq_false_iff_ne.mpr c11; have c11b1 : (a1 != 0) = true := bne_iff_ne.mpr c11; simp only [Option.some.injEq, Prod.mk.injEq] at H; obtain ⟨rfl, rfl⟩ := H; obtain ⟨ASz12_0, cSz12_0, HGz12, hgz12, HSz12_0⟩ := HI0.out; have hcz12_0 := cellS57_0 HGz12; have hcz12_1 := cellS57_1 HGz12; have hfz12_1 := blk_frozen HGz12 1; clear HGz12 hgz12; have p101 : 0 ≤ ((ji9) : Int) := of_decide_eq_true (by first | (with_reducible assumption) | assumption); have q101 : (ji9) < (s0_0.length : Int) := of_decide_eq_true (by first | (with_reducible assumption) | assumption); obtain ⟨ad101, e101, hx101_0⟩ := Kd.at_int HSz12_0 (ji9) p101 q101
       cases e101
       replace hx101_0 := pw_cell_below HB.out hx101_0; replace p101 := eq_true p101; replace q101 := eq_true q101; go_wp2
       repeat (go_quiet (fail); try go_wp2)
       go_ret
       exact ⟨by first | rfl | (simp [errW_none, errW_some] <;> rfl) | (simp only [← hji9]; first | rfl | (simp [errW_none, errW_some] <;> rfl)) | (simp [*, errW_none, errW_some] <;> rfl), by repeat (first | (with_reducible first | exact HI0.out | apply IsS57.alloc | apply IsS57.drewN | apply IsS57.drew | apply IsS57.set_1) | exact HI0.out), by repeat (first | (with_reducible first | exact HB.out | apply below_alloc | apply pw_below_drewN | apply below_drew1 | refine below_set ?_ (IsS57.ge HI0.out)) | exact HB.out), by repeat (first | (with_reducible first | exact HK.out | apply KeepBut.set_ | apply keep_drewN | apply keep_drew | apply keep_alloc) | exact HK.out)⟩
     ·rw [if_neg c10] at H; exact absurd H (by simp)
    ·rw [if_neg c8] at H
     have c8b0 : decide ((wrap64 ((wrap64 (s0_1 + 1)) - 1)) < (s0_0.length : Int)) = false := decide_eq_false c8; clear c8
     by_cases c13 : (s0_0.length : Int) = 0
     ·rw [if_pos c13] at H; exact absurd H (by simp)
     ·rw [if_neg c13] at H
      have c13b0 : ((s0_0.length : Int) == 0) = false := beq_eq_false_iff_ne.mpr c13; have c13b1 : ((s0_0.length : Int) != 0) = true := bne_iff_ne.mpr c13
      have c13b2 : ¬ (s0_0 = []) := fun h_ => c13 (by rw [h_]; rfl)
      obtain ⟨ji14, hji14⟩ : ∃ j_ : Int, (Int.tmod (wrap64 ((wrap64 (s0_1 + 1)) - 1)) (s0_0.length : Int)) = j_ := ⟨_, rfl⟩
      replace H : (if 0 ≤ (ji14) then (if (ji14) < (s0_0.length : Int) then (if 0 ≤ (Int.tmod (wrap64 ((wrap64 ((wrap64 ((wrap64 (s0_1 + 1)) - 1)) * 7)) + 3)) (s0_0.length : Int)) then (if (Int.tmod (wrap64 ((wrap64 ((wrap64 ((wrap64 (s0_1 + 1)) - 1)) * 7)) + 3)) (s0_0.length : Int)) < (s0_0.length : Int) then (if a1 = 0 then (none) else (some (Int.tmod (Go.bits .xor .i64 (wrap64 ((wrap64 ((wrap64 ((wrap64 ((wrap64 (rd s0_0 (ji14))) * 131)) + (wrap64 ((wrap64 (rd s0_0 (Int.tmod (wrap64 ((wrap64 ((wrap64 ((wrap64 (s0_1 + 1)) - 1)) * 7)) + 3)) (s0_0.length : Int)))) * 1117)))) + (wrap64 ((wrap64 ((wrap64 (s0_1 + 1)) - 1)) * 29)))) + (wrap64 ((wrap64 (Int.tdiv (wrap64 ((wrap64 (s0_1 + 1)) - 1)) (s0_0.length : Int))) * 53)))) (wrap64 (Int.tdiv (wrap64 ((wrap64 ((wrap64 ((wrap64 ((wrap64 (rd s0_0 (ji14))) * 131)) + (wrap64 ((wrap64 (rd s0_0 (Int.tmod (wrap64 ((wrap64 ((wrap64 ((wrap64 (s0_1 + 1)) - 1)) * 7)) + 3)) (s0_0.length : Int)))) * 1117)))) + (wrap64 ((wrap64 ((wrap64 (s0_1 + 1)) - 1)) * 29)))) + (wrap64 ((wrap64 (Int.tdiv (wrap64 ((wrap64 (s0_1 + 1)) - 1)) (s0_0.length : Int))) * 53)))) 64))) a1, (wrap64 (s0_1 + 1))))) else (none)) else (none)) else (none)) else (none)) = some (r1, r2) := by first | (rw [hji14] at H; exact H) | (simp only [hji14] at H ⊢; exact H)
      by_cases c15 : 0 ≤ (ji14)
      ·rw [if_pos c15] at H
       have c15b0 : decide (0 ≤ (ji14)) = true := decide_eq_true c15; clear c15
       by_cases c16 : (ji14) < (s0_0.length : Int)
       ·rw [if_pos c16] at H
        have c16b0 : decide ((ji14) < (s0_0.length : Int)) = true := decide_eq_true c16; clear c16; obtain ⟨ji17, hji17⟩ : ∃ j_ : Int, (Int.tmod (wrap64 ((wrap64 ((wrap64 ((wrap64 (s0_1 + 1)) - 1)) * 7)) + 3)) (s0_0.length : Int)) = j_ := ⟨_, rfl⟩
        replace H : (if 0 ≤ (ji17) then (if (ji17) < (s0_0.length : Int) then (if a1 = 0 then (none) else (some (Int.tmod (Go.bits .xor .i64 (wrap64 ((wrap64 ((wrap64 ((wrap64 ((wrap64 (rd s0_0 (ji14))) * 131)) + (wrap64 ((wrap64 (rd s0_0 (ji17))) * 1117)))) + (wrap64 ((wrap64 ((wrap64 (s0_1 + 1)) - 1)) * 29)))) + (wrap64 ((wrap64 (Int.tdiv (wrap64 ((wrap64 (s0_1 + 1)) - 1)) (s0_0.length : Int))) * 53)))) (wrap64 (Int.tdiv (wrap64 ((wrap64 ((wrap64 ((wrap64 ((wrap64 (rd s0_0 (ji14))) * 131)) + (wrap64 ((wrap64 (rd s0_0 (ji17))) * 1117)))) + (wrap64 ((wrap64 ((wrap64 (s0_1 + 1)) - 1)) * 29)))) + (wrap64 ((wrap64 (Int.tdiv (wrap64 ((wrap64 (s0_1 + 1)) - 1)) (s0_0.length : Int))) * 53)))) 64))) a1, (wrap64 (s0_1 + 1))))) else (none)) else (none)) = some (r1, r2) := by first | (rw [hji17] at H; exact H) | (simp only [hji17] at H ⊢; exact H)
        by_cases c18 : 0 ≤ (ji17)
        ·rw [if_pos c18] at H
         have c18b0 : decide (0 ≤ (ji17)) = true := decide_eq_true c18; clear c18
         by_cases c19 : (ji17) < (s0_0.length : Int)
         ·rw [if_pos c19] at H
          have c19b0 : decide ((ji17) < (s0_0.length : Int)) = true := decide_eq_true c19; clear c19
          by_cases c20 : a1 = 0
          ·rw [if_pos c20] at H; exact absurd H (by simp)
          ·rw [if_neg c20] at H
           have c20b0 : (a1 == 0) = false := beq_eq_false_iff_ne.mpr c20; have c20b1 : (a1 != 0) = true := bne_iff_ne.mpr c20; simp only [Option.some.injEq, Prod.mk.injEq] at H; obtain ⟨rfl, rfl⟩ := H; obtain ⟨ASz21_0, cSz21_0, HGz21, hgz21, HSz21_0⟩ := HI0.out; have hcz21_0 := cellS57_0 HGz21; have hcz21_1 := cellS57_1 HGz21; have hfz21_1 := blk_frozen HGz21 1; clear HGz21 hgz21; have p102 : 0 ≤ ((ji14) : Int) := of_decide_eq_true (by first | (with_reducible assumption) | assumption); have q102 : (ji14) < (s0_0.length : Int) := of_decide_eq_true (by first | (with_reducible assumption) | assumption); obtain ⟨ad102, e102, hx102_0⟩ := Kd.at_int HSz21_0 (ji14) p102 q102
           cases e102
           replace hx102_0 := pw_cell_below HB.out hx102_0; replace p102 := eq_true p102; replace q102 := eq_true q102; have p103 : 0 ≤ ((ji17) : Int) := of_decide_eq_true (by first | (with_reducible assumption) | assumption); have q103 : (ji17) < (s0_0.length : Int) := of_decide_eq_true (by first | (with_reducible assumption) | assumption); obtain ⟨ad103, e103, hx103_0⟩ := Kd.at_int HSz21_0 (ji17) p103 q103; obtain rfl : ad102 = ad103 := (by injection e103); replace hx103_0 := pw_cell_below HB.out hx103_0; replace p103 := eq_true p103; replace q103 := eq_true q103; go_wp2
           repeat (go_quiet (fail); try go_wp2)
           go_ret
           exact ⟨by first | rfl | (simp [errW_none, errW_some] <;> rfl) | (simp only [← hji14, ← hji17]; first | rfl | (simp [errW_none, errW_some] <;> rfl)) | (simp [*, errW_none, errW_some] <;> rfl), by repeat (first | (with_reducible first | exact HI0.out | apply IsS57.alloc | apply IsS57.drewN | apply IsS57.drew | apply IsS57.set_1) | exact HI0.out), by repeat (first | (with_reducible first | exact HB.out | apply below_alloc | apply pw_below_drewN | apply below_drew1 | refine below_set ?_ (IsS57.ge HI0.out)) | exact HB.out), by repeat (first | (with_reducible first | exact HK.out | apply KeepBut.set_ | apply keep_drewN | apply keep_drew | apply keep_alloc) | exact HK.out)⟩
         ·rw [if_neg c19] at H; exact absurd H (by simp)
        ·rw [if_neg c18] at H; exact absurd H (by simp)
       ·rw [if_neg c16] at H; exact absurd H (by simp)
      ·rw [if_neg c15] at H; exact absurd H (by simp)

end Go.Proofs.Ytdacpdhpifocbaa.P

