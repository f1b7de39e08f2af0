/- Part 4 of what ExactCodeWrite rests on: contracts of the program's functions and plain facts (the print's texts and the session's own, put together). -/
import Derived.Test.YtdacpdhpifocbaaDoorBExactCodeWrite2
namespace Go.Proofs.YtdacpdhpifocbaaDoor.P
open Go.RowKit Go.Proofs.YtdacpdhpifocbaaDoorW.PrintWords Go.Proofs.YtdacpdhpifocbaaDoorW.PrintLast Go.Proofs.YtdacpdhpifocbaaDoorW.PrintMore
attribute [local go_sem] max2_int min2_int max_two min_two max_three min_three max_four min_four   -- for this text's walks alone
set_option linter.unusedVariables false
set_option linter.unusedSimpArgs false

/-! ### spec_l22Write: function 29 -/
def spec_l22Write.l0 : Nat → List (S35) → ByteArray → Int → Option (ByteArray)
  | 0, _, _, _ => none
  | k + 1, x3, x4, x5 => if x5 < (x3.length : Int) then (if x5 = 0 then (if x4.size + 2 ≤ 9223372036854775807 then (if (x4 ++ (⟨#[71, 48]⟩ : ByteArray)).size + 2 ≤ 9223372036854775807 then (if 0 ≤ x5 then ((spec_l6Dec.f k ((rd_T35 x3 x5).f0)).bind fun t105 => (if ((x4 ++ (⟨#[71, 48]⟩ : ByteArray)) ++ (⟨#[32, 88]⟩ : ByteArray)).size + t105.size ≤ 9223372036854775807 then (if (((x4 ++ (⟨#[71, 48]⟩ : ByteArray)) ++ (⟨#[32, 88]⟩ : ByteArray)) ++ t105).size + 2 ≤ 9223372036854775807 then ((spec_l6Dec.f k ((rd_T35 x3 x5).f1)).bind fun t107 => (if ((((x4 ++ (⟨#[71, 48]⟩ : ByteArray)) ++ (⟨#[32, 88]⟩ : ByteArray)) ++ t105) ++ (⟨#[32, 89]⟩ : ByteArray)).size + t107.size ≤ 9223372036854775807 then (if (((((x4 ++ (⟨#[71, 48]⟩ : ByteArray)) ++ (⟨#[32, 88]⟩ : ByteArray)) ++ t105) ++ (⟨#[32, 89]⟩ : ByteArray)) ++ t107).size + 1 ≤ 9223372036854775807 then (spec_l22Write.l0 k x3 ((((((x4 ++ (⟨#[71, 48]⟩ : ByteArray)) ++ (⟨#[32, 88]⟩ : ByteArray)) ++ t105) ++ (⟨#[32, 89]⟩ : ByteArray)) ++ t107) ++ (⟨#[10]⟩ : ByteArray)) (wrap64 (x5 + 1))) else (none)) else (none))) else (none)) else (none))) else (none)) else (none)) else (none)) else (if x4.size + 2 ≤ 9223372036854775807 then (if (x4 ++ (⟨#[71, 49]⟩ : ByteArray)).size + 2 ≤ 9223372036854775807 then (if 0 ≤ x5 then ((spec_l6Dec.f k ((rd_T35 x3 x5).f0)).bind fun t109 => (if ((x4 ++ (⟨#[71, 49]⟩ : ByteArray)) ++ (⟨#[32, 88]⟩ : ByteArray)).size + t109.size ≤ 9223372036854775807 then (if (((x4 ++ (⟨#[71, 49]⟩ : ByteArray)) ++ (⟨#[32, 88]⟩ : ByteArray)) ++ t109).size + 2 ≤ 9223372036854775807 then ((spec_l6Dec.f k ((rd_T35 x3 x5).f1)).bind fun t111 => (if ((((x4 ++ (⟨#[71, 49]⟩ : ByteArray)) ++ (⟨#[32, 88]⟩ : ByteArray)) ++ t109) ++ (⟨#[32, 89]⟩ : ByteArray)).size + t111.size ≤ 9223372036854775807 then (if (((((x4 ++ (⟨#[71, 49]⟩ : ByteArray)) ++ (⟨#[32, 88]⟩ : ByteArray)) ++ t109) ++ (⟨#[32, 89]⟩ : ByteArray)) ++ t111).size + 1 ≤ 9223372036854775807 then (spec_l22Write.l0 k x3 ((((((x4 ++ (⟨#[71, 49]⟩ : ByteArray)) ++ (⟨#[32, 88]⟩ : ByteArray)) ++ t109) ++ (⟨#[32, 89]⟩ : ByteArray)) ++ t111) ++ (⟨#[10]⟩ : ByteArray)) (wrap64 (x5 + 1))) else (none)) else (none))) else (none)) else (none))) else (none)) else (none)) else (none))) else (some x4)
def spec_l22Write.f (k : Nat) (l0 : List (S35)) : Option (ByteArray) := (spec_l22Turns.f k l0).bind fun t101 => (spec_l22Write.l0 k t101 (⟨#[]⟩ : ByteArray) 0)
theorem spec_l22Write.mono_l : ∀ k, (∀ y0 y1 y2, LeO (spec_l22Write.l0 k y0 y1 y2) (spec_l22Write.l0 (k + 1) y0 y1 y2))
  | 0 => fun _ _ _ r h => by simp [spec_l22Write.l0] at h
  | k + 1 => by
    have ih0 := spec_l22Write.mono_l k
    · intro y0 y1 y2
      unfold spec_l22Write.l0
      repeat' first
      | (with_reducible exact ih0 _ _ _)
      | (with_reducible exact spec_l22Turns.mono _ _)
      | (with_reducible exact spec_l6Dec.mono _ _)
      | (with_reducible exact LeO.refl _)
      | (with_reducible exact LeO.none _)
      | (with_reducible refine LeO.ite ?_ ?_)
      | (with_reducible refine LeO.bind ?_ (fun _ => ?_))
      | exact ih0 _ _ _
      | exact spec_l22Turns.mono _ _
      | exact spec_l6Dec.mono _ _
      | exact LeO.none _
      | refine LeO.ite ?_ ?_
      | refine LeO.bind ?_ (fun _ => ?_)
theorem spec_l22Write.mono : ∀ a0 k, LeO (spec_l22Write.f k a0) (spec_l22Write.f (k + 1) a0) := by
  intro a0 k
  have ih0 := spec_l22Write.mono_l k
  unfold spec_l22Write.f
  repeat' first
      | (with_reducible exact ih0 _ _ _)
      | (with_reducible exact spec_l22Turns.mono _ _)
      | (with_reducible exact spec_l6Dec.mono _ _)
      | (with_reducible exact LeO.refl _)
      | (with_reducible exact LeO.none _)
      | (with_reducible refine LeO.ite ?_ ?_)
      | (with_reducible refine LeO.bind ?_ (fun _ => ?_))
      | exact ih0 _ _ _
      | exact spec_l22Turns.mono _ _
      | exact spec_l6Dec.mono _ _
      | exact LeO.none _
      | refine LeO.ite ?_ ?_
      | refine LeO.bind ?_ (fun _ => ?_)
def spec_l22Write.T9 : Bool × List (List Nat × List Nat) := (true, [([], []), ([], []), ([0, 1], [0, 1]), ([2], [2]), ([], []), ([], []), ([4, 5], [4, 5]), ([6], [6]), ([7], [7]), ([8], [8]), ([3, 9], [3, 9]), ([10], [10]), ([], []), ([], []), ([12, 13], [12, 13]), ([14], [14]), ([15], [15]), ([16, 9], [16]), ([11, 17], [11, 17]), ([18], [18]), ([19, 17, 0, 1, 2, 3, 4, 5, 6, 7, 8, 9, 10, 11, 12, 13, 14, 15, 16, 17, 18, 19], [0, 19])])
def spec_l22Write.B9 : List Nat := [0, 0, 3, 7, 0, 0, 48, 112, 240, 496, 1023, 2047, 0, 0, 12288, 28672, 61440, 127984, 262143, 524287, 1048575]
theorem spec_l22Write.tab9 : rtab .any (opsOf Tryd.f29 9) = spec_l22Write.T9 := by kernel_rfl
theorem spec_l22Write.bits9 : waitsOk spec_l22Write.T9.2 spec_l22Write.B9 = true := by kernel_rfl
abbrev spec_l22Write.y_ : Bool := true
abbrev spec_l22Write.n_ : Bool := false
set_option maxHeartbeats 8000000 in
set_option maxRecDepth 100000 in
theorem spec_l22Write.calls (k : Nat) (A0 : Option Addr) (c0 : Nat) (l0 : List (S35)) (r : ByteArray) (w : World) (hr0 : Kd.C k35 w A0 l0.length l0) (hc0 : l0.length ≤ c0) (h : spec_l22Write.f k l0 = some r) :
  Calls Tryd.prog 29 #[.slice A0 l0.length c0] w fun e w' => e = .returned (.string r) ∧ Below w.heap.size w w' := by
 have HR0 := Aside0.mk hr0; have HC0 := Aside0.mk hc0; clear hr0 hc0; have HB := Aside0.mk (Below.refl w.heap.size w); have H : ((spec_l22Turns.f k l0).bind fun t101 => (spec_l22Write.l0 k t101 (⟨#[]⟩ : ByteArray) 0)) = some r := h; clear h; replace H := Option.bind_eq_some_iff.mp H; obtain ⟨t101, A20, H⟩ := H; replace H : (spec_l22Write.l0 k t101 (⟨#[]⟩ : ByteArray) 0) = some r := H; have A2 := Aside0.mk A20; clear A20; have H' := Aside0.mk H; clear H; go_enter Tryd.func29, Tryd.ntmps29; go_wp2_with (first | ((with_reducible refine gate_callee (f := 54) rfl ?_); refine goesL_ (some 8) rfl rfl Tryd.func54 (by kernel_rfl) rfl #[.slice A0 l0.length c0] rfl (by (try simp only [List.map_toArray, List.map_cons, List.map_nil]); first | done | rfl | (simp only [List.length_drop, List.length_take]; rfl)) ?_; (with_reducible refine (spec_l22Turns.calls k _ _ l0 t101 _ ?side1 ?side2 A2.out).mono ?_); (case side1 => repeat (first | exact HR0.out | (with_reducible refine Kd.C_alloc ?_ _) | (with_reducible refine Kd.C_drewN ?_ _) | (with_reducible refine Kd.C_drew ?_))); (case side2 => exact HC0.out); rintro e w3 ⟨v102, rfl, ho0, hb⟩; refine ⟨_, rfl, ?_⟩; have n0_ := Aside0.mk (Kd.R_lower ho0 (below_size (by repeat (first | (with_reducible first | exact HB.out | apply below_alloc | apply pw_below_drewN | apply below_drew1) | exact HB.out)))); have n1_ := Aside0.mk (below_step (by repeat (first | (with_reducible first | exact HB.out | apply below_alloc | apply pw_below_drewN | apply below_drew1) | exact HB.out)) hb); clear HB; have HO103 := n0_; have HB := n1_; clear n0_ n1_; (try clear hb); (try clear hb2); (try clear hk); (try clear hi); (try clear ho0))); go_loopg [4, 5] k (fun kq v4 v5 w' => ∃ (x4_1 : ByteArray) (x5_1 : Int), v4 = .string x4_1 ∧ v5 = .int .i64 x5_1 ∧ Aside0 (spec_l22Write.l0 kq t101 x4_1 x5_1 = some r) ∧ Aside0 (kq ≤ k) ∧ Aside0 (Kd.R k35 35 w' w.heap.size (fun _ => True) v102 t101) ∧ Aside0 (Below w.heap.size w w'))
 case atStart => exact ⟨((⟨#[]⟩ : ByteArray)), (0), (by first | rfl | (simp; done) | (simp [*]; done)), (by first | rfl | (simp; done) | (simp [*]; done)), H', ⟨Nat.le_refl _⟩, ⟨by (with_reducible repeat (first | apply Kd.R_alloc | apply Kd.R_drewN | apply Kd.R_drew)); exact HO103.out⟩, ⟨by repeat (first | (with_reducible first | exact HB.out | apply below_alloc | apply pw_below_drewN | apply below_drew1) | exact HB.out)⟩⟩
 case round =>
  clear H'
  try clear c2
  try clear p2
  obtain ⟨x4_1, x5_1, rfl, rfl, HA, HK1, HO_3, HB⟩ := hrel
  cases gk with
  | zero => exact absurd HA.out (by simp [spec_l22Write.l0])
  | succ k1 =>
   have H := HA.out; clear HA; simp only [spec_l22Write.l0] at H
   by_cases c4 : x5_1 < (t101.length : Int)
   ·rw [if_pos c4] at H
    have c4b0 : decide (x5_1 < (t101.length : Int)) = true := decide_eq_true c4; clear c4
    by_cases c5 : x5_1 = 0
    ·rw [if_pos c5] at H
     have c5b0 : (x5_1 == 0) = true := beq_iff_eq.mpr c5; have c5b1 : (x5_1 != 0) = false := bne_eq_false_iff_eq.mpr c5; clear c5
     by_cases c6 : x4_1.size + 2 ≤ 9223372036854775807
     ·rw [if_pos c6] at H
      have c6b0 := eq_true c6; have c6b1 : decide (x4_1.size + 2 ≤ 9223372036854775807) = true := decide_eq_true c6
      try have c6b2 : (9223372036854775807 < x4_1.size + 2) = False := eq_false (Nat.not_lt.2 c6)
      by_cases c7 : (x4_1 ++ (⟨#[71, 48]⟩ : ByteArray)).size + 2 ≤ 9223372036854775807
      ·rw [if_pos c7] at H
       have c7b0 := eq_true c7; have c7b1 : decide ((x4_1 ++ (⟨#[71, 48]⟩ : ByteArray)).size + 2 ≤ 9223372036854775807) = true := decide_eq_true c7
       try have c7b2 : (9223372036854775807 < (x4_1 ++ (⟨#[71, 48]⟩ : ByteArray)).size + 2) = False := eq_false (Nat.not_lt.2 c7)
       try (have c7b4 := c7b2; simp only [ByteArray.size_append', ByteArray.size_mk', List.size_toArray, List.length_cons, List.length_nil, Nat.reduceAdd, Nat.zero_add] at c7b4)
       by_cases c8 : 0 ≤ x5_1
       ·rw [if_pos c8] at H
        have c8b0 : decide (0 ≤ x5_1) = true := decide_eq_true c8; clear c8; replace H := Option.bind_eq_some_iff.mp H; obtain ⟨t105, A90, H⟩ := H; replace H : (if ((x4_1 ++ (⟨#[71, 48]⟩ : ByteArray)) ++ (⟨#[32, 88]⟩ : ByteArray)).size + t105.size ≤ 9223372036854775807 then (if (((x4_1 ++ (⟨#[71, 48]⟩ : ByteArray)) ++ (⟨#[32, 88]⟩ : ByteArray)) ++ t105).size + 2 ≤ 9223372036854775807 then ((spec_l6Dec.f k1 ((rd_T35 t101 x5_1).f1)).bind fun t107 => (if ((((x4_1 ++ (⟨#[71, 48]⟩ : ByteArray)) ++ (⟨#[32, 88]⟩ : ByteArray)) ++ t105) ++ (⟨#[32, 89]⟩ : ByteArray)).size + t107.size ≤ 9223372036854775807 then (if (((((x4_1 ++ (⟨#[71, 48]⟩ : ByteArray)) ++ (⟨#[32, 88]⟩ : ByteArray)) ++ t105) ++ (⟨#[32, 89]⟩ : ByteArray)) ++ t107).size + 1 ≤ 9223372036854775807 then (spec_l22Write.l0 k1 t101 ((((((x4_1 ++ (⟨#[71, 48]⟩ : ByteArray)) ++ (⟨#[32, 88]⟩ : ByteArray)) ++ t105) ++ (⟨#[32, 89]⟩ : ByteArray)) ++ t107) ++ (⟨#[10]⟩ : ByteArray)) (wrap64 (x5_1 + 1))) else (none)) else (none))) else (none)) else (none)) = some r := H; have A9 := Aside0.mk A90; clear A90
        by_cases c10 : ((x4_1 ++ (⟨#[71, 48]⟩ : ByteArray)) ++ (⟨#[32, 88]⟩ : ByteArray)).size + t105.size ≤ 9223372036854775807
        ·rw [if_pos c10] at H
         have c10b0 := eq_true c10; have c10b1 : decide (((x4_1 ++ (⟨#[71, 48]⟩ : ByteArray)) ++ (⟨#[32, 88]⟩ : ByteArray)).size + t105.size ≤ 9223372036854775807) = true := decide_eq_true c10
         try have c10b2 : (9223372036854775807 < ((x4_1 ++ (⟨#[71, 48]⟩ : ByteArray)) ++ (⟨#[32, 88]⟩ : ByteArray)).size + t105.size) = False := eq_false (Nat.not_lt.2 c10)
         try (have c10b4 := c10b2; simp only [ByteArray.size_append', ByteArray.size_mk', List.size_toArray, List.length_cons, List.length_nil, Nat.reduceAdd, Nat.zero_add] at c10b4)
         by_cases c11 : (((x4_1 ++ (⟨#[71, 48]⟩ : ByteArray)) ++ (⟨#[32, 88]⟩ : ByteArray)) ++ t105).size + 2 ≤ 9223372036854775807
         ·rw [if_pos c11] at H
          have c11b0 := eq_true c11; have c11b1 : decide ((((x4_1 ++ (⟨#[71, 48]⟩ : ByteArray)) ++ (⟨#[32, 88]⟩ : ByteArray)) ++ t105).size + 2 ≤ 9223372036854775807) = true := decide_eq_true c11
          try have c11b2 : (9223372036854775807 < (((x4_1 ++ (⟨#[71, 48]⟩ : ByteArray)) ++ (⟨#[32, 88]⟩ : ByteArray)) ++ t105).size + 2) = False := eq_false (Nat.not_lt.2 c11)
          try (have c11b4 := c11b2; simp only [ByteArray.size_append', ByteArray.size_mk', List.size_toArray, List.length_cons, List.length_nil, Nat.reduceAdd, Nat.zero_add] at c11b4)
          replace H := Option.bind_eq_some_iff.mp H; obtain ⟨t107, A120, H⟩ := H; replace H : (if ((((x4_1 ++ (⟨#[71, 48]⟩ : ByteArray)) ++ (⟨#[32, 88]⟩ : ByteArray)) ++ t105) ++ (⟨#[32, 89]⟩ : ByteArray)).size + t107.size ≤ 9223372036854775807 then (if (((((x4_1 ++ (⟨#[71, 48]⟩ : ByteArray)) ++ (⟨#[32, 88]⟩ : ByteArray)) ++ t105) ++ (⟨#[32, 89]⟩ : ByteArray)) ++ t107).size + 1 ≤ 9223372036854775807 then (spec_l22Write.l0 k1 t101 ((((((x4_1 ++ (⟨#[71, 48]⟩ : ByteArray)) ++ (⟨#[32, 88]⟩ : ByteArray)) ++ t105) ++ (⟨#[32, 89]⟩ : ByteArray)) ++ t107) ++ (⟨#[10]⟩ : ByteArray)) (wrap64 (x5_1 + 1))) else (none)) else (none)) = some r := H; have A12 := Aside0.mk A120; clear A120
          by_cases c13 : ((((x4_1 ++ (⟨#[71, 48]⟩ : ByteArray)) ++ (⟨#[32, 88]⟩ : ByteArray)) ++ t105) ++ (⟨#[32, 89]⟩ : ByteArray)).size + t107.size ≤ 9223372036854775807
          ·rw [if_pos c13] at H
           have c13b0 := eq_true c13; have c13b1 : decide (((((x4_1 ++ (⟨#[71, 48]⟩ : ByteArray)) ++ (⟨#[32, 88]⟩ : ByteArray)) ++ t105) ++ (⟨#[32, 89]⟩ : ByteArray)).size + t107.size ≤ 9223372036854775807) = true := decide_eq_true c13
           try have c13b2 : (9223372036854775807 < ((((x4_1 ++ (⟨#[71, 48]⟩ : ByteArray)) ++ (⟨#[32, 88]⟩ : ByteArray)) ++ t105) ++ (⟨#[32, 89]⟩ : ByteArray)).size + t107.size) = False := eq_false (Nat.not_lt.2 c13)
           try (have c13b4 := c13b2; simp only [ByteArray.size_append', ByteArray.size_mk', List.size_toArray, List.length_cons, List.length_nil, Nat.reduceAdd, Nat.zero_add] at c13b4)
           by_cases c14 : (((((x4_1 ++ (⟨#[71, 48]⟩ : ByteArray)) ++ (⟨#[32, 88]⟩ : ByteArray)) ++ t105) ++ (⟨#[32, 89]⟩ : ByteArray)) ++ t107).size + 1 ≤ 9223372036854775807
           ·rw [if_pos c14] at H
            have c14b0 := eq_true c14; have c14b1 : decide ((((((x4_1 ++ (⟨#[71, 48]⟩ : ByteArray)) ++ (⟨#[32, 88]⟩ : ByteArray)) ++ t105) ++ (⟨#[32, 89]⟩ : ByteArray)) ++ t107).size + 1 ≤ 9223372036854775807) = true := decide_eq_true c14
            try have c14b2 : (9223372036854775807 < (((((x4_1 ++ (⟨#[71, 48]⟩ : ByteArray)) ++ (⟨#[32, 88]⟩ : ByteArray)) ++ t105) ++ (⟨#[32, 89]⟩ : ByteArray)) ++ t107).size + 1) = False := eq_false (Nat.not_lt.2 c14)
            try (have c14b4 := c14b2; simp only [ByteArray.size_append', ByteArray.size_mk', List.size_toArray, List.length_cons, List.length_nil, Nat.reduceAdd, Nat.zero_add] at c14b4)
            have H' := Aside0.mk H; clear H; obtain ⟨Ao15, co15, eo15⟩ := Kd.R_slice HO_3.out; subst eo15
            try go_wp2
            have n0_ := Aside0.mk (Kd.R_drew HO_3.out); have n1_ := Aside0.mk (below_drew1 HB.out); clear HO_3; clear HB; have HO_3 := n0_; have HB := n1_; clear n0_ n1_; have p104 : 0 ≤ (x5_1 : Int) := of_decide_eq_true (by first | (with_reducible assumption) | assumption); have q104 : x5_1 < (t101.length : Int) := of_decide_eq_true (by first | (with_reducible assumption) | assumption); obtain ⟨ad104, e104, hx104_0, hx104_1⟩ := at_T35 (Kd.R_reads' HO_3.out).2.2 x5_1 p104 q104
            cases e104
            replace p104 := eq_true p104; replace q104 := eq_true q104; have p106 : 0 ≤ (x5_1 : Int) := of_decide_eq_true (by first | (with_reducible assumption) | assumption); have q106 : x5_1 < (t101.length : Int) := of_decide_eq_true (by first | (with_reducible assumption) | assumption); obtain ⟨ad106, e106, hx106_0, hx106_1⟩ := at_T35 (Kd.R_reads' HO_3.out).2.2 x5_1 p106 q106; obtain rfl : ad104 = ad106 := (by injection e106); replace p106 := eq_true p106; replace q106 := eq_true q106; refine start_ (n := 21) (S := fun w' => w'.cell? (ad104.add ((x5_1).toNat * 2)) = some (.int .i64 ((rd_T35 t101 x5_1).f0)) ∧ w'.cell? ⟨(ad104.add ((x5_1).toNat * 2)).block, (ad104.add ((x5_1).toNat * 2)).off + 1, none⟩ = some (.int .i64 ((rd_T35 t101 x5_1).f1)) ∧ w'.cell? (ad104.add ((x5_1).toNat * 2)) = some (.int .i64 ((rd_T35 t101 x5_1).f0)) ∧ w'.cell? ⟨(ad104.add ((x5_1).toNat * 2)).block, (ad104.add ((x5_1).toNat * 2)).off + 1, none⟩ = some (.int .i64 ((rd_T35 t101 x5_1).f1))) (ds := []) #[n_,n_,n_,n_,n_,n_,n_,n_,n_,n_,n_,n_,n_,n_,n_,n_,n_,n_,n_,n_,n_] (by kernel_rfl) rfl rfl ⟨hx104_0, hx104_1, hx106_0, hx106_1⟩ (fun hHeld => ?_); refine with_tabW spec_l22Write.tab9 spec_l22Write.bits9 (fun HT_ HW_ => ?_); generalize wr.drew = w16 at HO_3 HB hx104_0 hx104_1 hx106_0 hx106_1 hHeld ⊢; refine pure_ (i := 0) (N := some 17) (v := ?_) (a' := ?_) #[y_,n_,n_,n_,n_,n_,n_,n_,n_,n_,n_,n_,n_,n_,n_,n_,n_,n_,n_,n_,n_] rfl rfl (any_of HT_.out (by kernel_rfl)) (fun _ _ _ h => h) (Or.inl ⟨by rfl, ?_⟩) ?_ ?_
            rotate_left
            ·intro w'; go_simp; with_reducible rfl
            rotate_left
            ·simp only [Act.put, List.setIfInBounds_toArray, List.set_cons_zero, List.set_cons_succ, i64_w, i32_w]; rfl
            refine pure_ (i := 1) (N := some 18) (v := ?_) (a' := ?_) #[y_,y_,n_,n_,n_,n_,n_,n_,n_,n_,n_,n_,n_,n_,n_,n_,n_,n_,n_,n_,n_] rfl rfl (any_of HT_.out (by kernel_rfl)) (fun _ _ _ h => h) (Or.inl ⟨by rfl, ?_⟩) ?_ ?_
            rotate_left
            ·intro w'; go_simp; with_reducible rfl
            rotate_left
            ·simp only [Act.put, List.setIfInBounds_toArray, List.set_cons_zero, List.set_cons_succ, i64_w, i32_w]; rfl
            refine pure_ (i := 2) (N := some 19) (v := ?_) (a' := ?_) #[y_,y_,y_,n_,n_,n_,n_,n_,n_,n_,n_,n_,n_,n_,n_,n_,n_,n_,n_,n_,n_] rfl rfl (any_of HT_.out (by kernel_rfl)) (fun _ _ _ h => h) (Or.inl ⟨by rfl, ?_⟩) ?_ ?_
            rotate_left
            ·intro w'; go_simp; with_reducible rfl
            rotate_left
            ·simp only [Act.put, List.setIfInBounds_toArray, List.set_cons_zero, List.set_cons_succ, i64_w, i32_w]; rfl
            refine pure_ (i := 3) (N := some 20) (v := ?_) (a' := ?_) #[y_,y_,y_,y_,n_,n_,n_,n_,n_,n_,n_,n_,n_,n_,n_,n_,n_,n_,n_,n_,n_] rfl rfl (any_of HT_.out (by kernel_rfl)) (fun _ _ _ h => h) (Or.inl ⟨by rfl, ?_⟩) ?_ ?_
            rotate_left
            ·intro w'; go_simp; with_reducible rfl
            rotate_left
            ·simp only [Act.put, List.setIfInBounds_toArray, List.set_cons_zero, List.set_cons_succ, i64_w, i32_w]; rfl
            refine pure_ (i := 4) (N := some 21) (v := ?_) (a' := ?_) #[y_,y_,y_,y_,y_,n_,n_,n_,n_,n_,n_,n_,n_,n_,n_,n_,n_,n_,n_,n_,n_] rfl rfl (any_of HT_.out (by kernel_rfl)) (fun _ _ _ h => h) (Or.inl ⟨by rfl, ?_⟩) ?_ ?_
            rotate_left
            ·intro w'; go_simp; with_reducible rfl
            rotate_left
            ·simp only [Act.put, List.setIfInBounds_toArray, List.set_cons_zero, List.set_cons_succ, i64_w, i32_w]; rfl
            refine pure_ (i := 5) (N := some 22) (v := ?_) (a' := ?_) #[y_,y_,y_,y_,y_,y_,n_,n_,n_,n_,n_,n_,n_,n_,n_,n_,n_,n_,n_,n_,n_] rfl rfl (any_of HT_.out (by kernel_rfl)) (fun _ _ _ h => h) (Or.inl ⟨by rfl, ?_⟩) ?_ ?_
            rotate_left
            ·intro w'; go_simp; with_reducible rfl
            rotate_left
            ·simp only [Act.put, List.setIfInBounds_toArray, List.set_cons_zero, List.set_cons_succ, i64_w, i32_w]; rfl
            refine pure_ (i := 6) (N := some 23) (v := ?_) (a' := ?_) #[y_,y_,y_,y_,y_,y_,y_,n_,n_,n_,n_,n_,n_,n_,n_,n_,n_,n_,n_,n_,n_] rfl rfl (any_of HT_.out (by kernel_rfl)) (fun _ _ _ h => h) (Or.inl ⟨by rfl, ?_⟩) ?_ ?_
            rotate_left
            ·intro w'; go_simp; with_reducible rfl
            rotate_left
            ·simp only [Act.put, List.setIfInBounds_toArray, List.set_cons_zero, List.set_cons_succ, i64_w, i32_w]; rfl
            refine pure_ (i := 7) (N := some 24) (v := ?_) (a' := ?_) #[y_,y_,y_,y_,y_,y_,y_,y_,n_,n_,n_,n_,n_,n_,n_,n_,n_,n_,n_,n_,n_] rfl rfl (any_of HT_.out (by kernel_rfl)) (fun _ _ _ h => h) (Or.inl ⟨by rfl, ?_⟩) ?_ ?_
            rotate_left
            ·intro w'; go_simp; with_reducible rfl
            rotate_left
            ·simp only [Act.put, List.setIfInBounds_toArray, List.set_cons_zero, List.set_cons_succ, i64_w, i32_w]; rfl
            refine pure_ (i := 12) (N := some 29) (v := ?_) (a' := ?_) #[y_,y_,y_,y_,y_,y_,y_,y_,n_,n_,n_,n_,y_,n_,n_,n_,n_,n_,n_,n_,n_] rfl rfl (any_of HT_.out (by kernel_rfl)) (fun _ _ _ h => h) (Or.inl ⟨by rfl, ?_⟩) ?_ ?_
            rotate_left
            ·intro w'; go_simp; with_reducible rfl
            rotate_left
            ·simp only [Act.put, List.setIfInBounds_toArray, List.set_cons_zero, List.set_cons_succ, i64_w, i32_w]; rfl
            refine pure_ (i := 13) (N := some 30) (v := ?_) (a' := ?_) #[y_,y_,y_,y_,y_,y_,y_,y_,n_,n_,n_,n_,y_,y_,n_,n_,n_,n_,n_,n_,n_] rfl rfl (any_of HT_.out (by kernel_rfl)) (fun _ _ _ h => h) (Or.inl ⟨by rfl, ?_⟩) ?_ ?_
            rotate_left
            ·intro w'; go_simp; with_reducible rfl
            rotate_left
            ·simp only [Act.put, List.setIfInBounds_toArray, List.set_cons_zero, List.set_cons_succ, i64_w, i32_w]; rfl
            refine pure_ (i := 14) (N := some 31) (v := ?_) (a' := ?_) #[y_,y_,y_,y_,y_,y_,y_,y_,n_,n_,n_,n_,y_,y_,y_,n_,n_,n_,n_,n_,n_] rfl rfl (any_of HT_.out (by kernel_rfl)) (fun _ _ _ h => h) (Or.inl ⟨by rfl, ?_⟩) ?_ ?_
            rotate_left
            ·intro w'; go_simp; with_reducible rfl
            rotate_left
            ·simp only [Act.put, List.setIfInBounds_toArray, List.set_cons_zero, List.set_cons_succ, i64_w, i32_w]; rfl
            refine pure_ (i := 15) (N := some 32) (v := ?_) (a' := ?_) #[y_,y_,y_,y_,y_,y_,y_,y_,n_,n_,n_,n_,y_,y_,y_,y_,n_,n_,n_,n_,n_] rfl rfl (any_of HT_.out (by kernel_rfl)) (fun _ _ _ h => h) (Or.inl ⟨by rfl, ?_⟩) ?_ ?_
            rotate_left
            ·intro w'; go_simp; with_reducible rfl
            rotate_left
            ·simp only [Act.put, List.setIfInBounds_toArray, List.set_cons_zero, List.set_cons_succ, i64_w, i32_w]; rfl
            refine take_ (i := 8) (N := some 25) (v := ?_) (a' := ?_) #[y_,y_,y_,y_,y_,y_,y_,y_,y_,n_,n_,n_,y_,y_,y_,y_,n_,n_,n_,n_,n_] rfl rfl (take_ofW HT_.out HW_.out (by kernel_rfl)) (fun _ _ _ h => h) (Or.inl ⟨by rfl, ?_⟩) hHeld ?_ ?_
            rotate_left
            ·rintro w' ⟨s0, s1, s2, s3⟩; go_simp; with_reducible rfl
            rotate_left
            ·simp only [Act.put, List.setIfInBounds_toArray, List.set_cons_zero, List.set_cons_succ, i64_w, i32_w]; rfl
            refine take_ (i := 16) (N := some 33) (v := ?_) (a' := ?_) #[y_,y_,y_,y_,y_,y_,y_,y_,y_,n_,n_,n_,y_,y_,y_,y_,y_,n_,n_,n_,n_] rfl rfl (take_ofW HT_.out HW_.out (by kernel_rfl)) (fun _ _ _ h => h) (Or.inl ⟨by rfl, ?_⟩) hHeld ?_ ?_
            rotate_left
            ·rintro w' ⟨s0, s1, s2, s3⟩; go_simp; with_reducible rfl
            rotate_left
            ·simp only [Act.put, List.setIfInBounds_toArray, List.set_cons_zero, List.set_cons_succ, i64_w, i32_w]; rfl
            refine one_ (i := 9) (N := some 26) #[y_,y_,y_,y_,y_,y_,y_,y_,y_,y_,n_,n_,y_,y_,y_,y_,y_,n_,n_,n_,n_] rfl rfl (one_of HT_.out (by kernel_rfl)) (by decide) (fun K hK => ?_); refine goes_ Tryd.func55 (by kernel_rfl) rfl #[.int .i64 ((rd_T35 t101 x5_1).f0)] (by rfl) rfl rfl (by (try simp only [List.map_toArray, List.map_cons, List.map_nil]); first | done | rfl | (simp only [List.length_drop, List.length_take]; rfl)) ?_
            with_reducible refine (spec_l6Dec.calls k1 ((rd_T35 t101 x5_1).f0) t105 _ A9.out).mono ?_
            rintro e w17 ⟨rfl, hb⟩; have HS0_ := (hb.cell (World.block_lt_of_cell? _ _ (hHeld.1))).trans (hHeld.1); have HS1_ := (hb.cell (World.block_lt_of_cell? _ _ (hHeld.2.1))).trans (hHeld.2.1); have HS2_ := (hb.cell (World.block_lt_of_cell? _ _ (hHeld.2.2.1))).trans (hHeld.2.2.1); have HS3_ := (hb.cell (World.block_lt_of_cell? _ _ (hHeld.2.2.2))).trans (hHeld.2.2.2); refine ⟨_, rfl, ?_⟩; have n0_ := Aside0.mk (Kd.R_below (by (with_reducible repeat (first | apply Kd.R_alloc | apply Kd.R_drewN | apply Kd.R_drew)); exact HO_3.out) hb); have n1_ := Aside0.mk (below_step (by repeat (first | (with_reducible first | exact HB.out | apply below_alloc | apply pw_below_drewN | apply below_drew1) | exact HB.out)) hb); clear HO_3; clear HB; have HO_3 := n0_; have HB := n1_; clear n0_ n1_; (try clear hb); (try clear hb2); (try clear hk); (try clear hi); refine hK.out _ _ ⟨HS0_, HS1_, HS2_, HS3_⟩ (fun hHeld => ?_); clear hK K; refine norm_ (a' := ?_) ?_ ?_
            rotate_left
            ·show Act.put _ (some 26) _ = _
             simp only [Act.put, List.setIfInBounds_toArray, List.set_cons_zero, List.set_cons_succ, i64_w, i32_w]; rfl
            refine pure_ (i := 10) (N := some 27) (v := ?_) (a' := ?_) #[y_,y_,y_,y_,y_,y_,y_,y_,y_,y_,y_,n_,y_,y_,y_,y_,y_,n_,n_,n_,n_] rfl rfl (any_of HT_.out (by kernel_rfl)) (fun _ _ _ h => h) (Or.inl ⟨by rfl, ?_⟩) ?_ ?_
            rotate_left
            ·intro w'; go_simp; with_reducible rfl
            rotate_left
            ·simp only [Act.put, List.setIfInBounds_toArray, List.set_cons_zero, List.set_cons_succ, i64_w, i32_w]; rfl
            refine pure_ (i := 11) (N := some 28) (v := ?_) (a' := ?_) #[y_,y_,y_,y_,y_,y_,y_,y_,y_,y_,y_,y_,y_,y_,y_,y_,y_,n_,n_,n_,n_] rfl rfl (any_of HT_.out (by kernel_rfl)) (fun _ _ _ h => h) (Or.inl ⟨by rfl, ?_⟩) ?_ ?_
            rotate_left
            ·intro w'; go_simp; with_reducible rfl
            rotate_left
            ·simp only [Act.put, List.setIfInBounds_toArray, List.set_cons_zero, List.set_cons_succ, i64_w, i32_w]; rfl
            refine one_ (i := 17) (N := some 34) #[y_,y_,y_,y_,y_,y_,y_,y_,y_,y_,y_,y_,y_,y_,y_,y_,y_,y_,n_,n_,n_] rfl rfl (one_of HT_.out (by kernel_rfl)) (by decide) (fun K hK => ?_); refine goes_ Tryd.func55 (by kernel_rfl) rfl #[.int .i64 ((rd_T35 t101 x5_1).f1)] (by rfl) rfl rfl (by (try simp only [List.map_toArray, List.map_cons, List.map_nil]); first | done | rfl | (simp only [List.length_drop, List.length_take]; rfl)) ?_
            with_reducible refine (spec_l6Dec.calls k1 ((rd_T35 t101 x5_1).f1) t107 _ A12.out).mono ?_
            rintro e w18 ⟨rfl, hb⟩; have HS0_ := (hb.cell (World.block_lt_of_cell? _ _ (hHeld.1))).trans (hHeld.1); have HS1_ := (hb.cell (World.block_lt_of_cell? _ _ (hHeld.2.1))).trans (hHeld.2.1); have HS2_ := (hb.cell (World.block_lt_of_cell? _ _ (hHeld.2.2.1))).trans (hHeld.2.2.1); have HS3_ := (hb.cell (World.block_lt_of_cell? _ _ (hHeld.2.2.2))).trans (hHeld.2.2.2); refine ⟨_, rfl, ?_⟩; have n0_ := Aside0.mk (Kd.R_below (by (with_reducible repeat (first | apply Kd.R_alloc | apply Kd.R_drewN | apply Kd.R_drew)); exact HO_3.out) hb); have n1_ := Aside0.mk (below_step (by repeat (first | (with_reducible first | exact HB.out | apply below_alloc | apply pw_below_drewN | apply below_drew1) | exact HB.out)) hb); clear HO_3; clear HB; have HO_3 := n0_; have HB := n1_; clear n0_ n1_; (try clear hb); (try clear hb2); (try clear hk); (try clear hi); refine hK.out _ _ ⟨HS0_, HS1_, HS2_, HS3_⟩ (fun hHeld => ?_); clear hK K; refine norm_ (a' := ?_) ?_ ?_
            rotate_left
            ·show Act.put _ (some 34) _ = _
             simp only [Act.put, List.setIfInBounds_toArray, List.set_cons_zero, List.set_cons_succ, i64_w, i32_w]; rfl
            refine pure_ (i := 18) (N := some 35) (v := ?_) (a' := ?_) #[y_,y_,y_,y_,y_,y_,y_,y_,y_,y_,y_,y_,y_,y_,y_,y_,y_,y_,y_,n_,n_] rfl rfl (any_of HT_.out (by kernel_rfl)) (fun _ _ _ h => h) (Or.inl ⟨by rfl, ?_⟩) ?_ ?_
            rotate_left
            ·intro w'; go_simp; with_reducible rfl
            rotate_left
            ·simp only [Act.put, List.setIfInBounds_toArray, List.set_cons_zero, List.set_cons_succ, i64_w, i32_w]; rfl
            refine pure_ (i := 19) (N := some 36) (v := ?_) (a' := ?_) #[y_,y_,y_,y_,y_,y_,y_,y_,y_,y_,y_,y_,y_,y_,y_,y_,y_,y_,y_,y_,n_] rfl rfl (any_of HT_.out (by kernel_rfl)) (fun _ _ _ h => h) (Or.inl ⟨by rfl, ?_⟩) ?_ ?_
            rotate_left
            ·intro w'; go_simp; with_reducible rfl
            rotate_left
            ·simp only [Act.put, List.setIfInBounds_toArray, List.set_cons_zero, List.set_cons_succ, i64_w, i32_w]; rfl
            refine pure_ (i := 20) (N := some 4) (v := ?_) (a' := ?_) #[y_,y_,y_,y_,y_,y_,y_,y_,y_,y_,y_,y_,y_,y_,y_,y_,y_,y_,y_,y_,y_] rfl rfl (any_of HT_.out (by kernel_rfl)) (fun _ _ _ h => h) (Or.inl ⟨by rfl, ?_⟩) ?_ ?_
            rotate_left
            ·intro w'; go_simp; with_reducible rfl
            rotate_left
            ·simp only [Act.put, List.setIfInBounds_toArray, List.set_cons_zero, List.set_cons_succ, i64_w, i32_w]; rfl
            refine done_ (done_of HT_.out (by kernel_rfl)) ?_
            try go_wp2
            go_roundg k1
            case measure => have := HK1.out; omega
            case rel => exact ⟨((((((x4_1 ++ (⟨#[71, 48]⟩ : ByteArray)) ++ (⟨#[32, 88]⟩ : ByteArray)) ++ t105) ++ (⟨#[32, 89]⟩ : ByteArray)) ++ t107) ++ (⟨#[10]⟩ : ByteArray)), (wrap64 (x5_1 + 1)), (by first | rfl | (simp; done) | (simp [*]; done)), (by first | rfl | (simp; done) | (simp [*]; done)), H', ⟨by have := HK1.out; omega⟩, ⟨by (with_reducible repeat (first | apply Kd.R_alloc | apply Kd.R_drewN | apply Kd.R_drew)); exact HO_3.out⟩, ⟨by repeat (first | (with_reducible first | exact HB.out | apply below_alloc | apply pw_below_drewN | apply below_drew1) | exact HB.out)⟩⟩
           ·rw [if_neg c14] at H; exact absurd H (by simp)
          ·rw [if_neg c13] at H; exact absurd H (by simp)
         ·rw [if_neg c11] at H; exact absurd H (by simp)
        ·rw [if_neg c10] at H; exact absurd H (by simp)
       ·rw [if_neg c8] at H; exact absurd H (by simp)
      ·rw [if_neg c7] at H; exact absurd H (by simp)
     ·rw [if_neg c6] at H; exact absurd H (by simp)
    ·rw [if_neg c5] at H
     have c5b0 : (x5_1 == 0) = false := beq_eq_false_iff_ne.mpr c5; have c5b1 : (x5_1 != 0) = true := bne_iff_ne.mpr c5
     by_cases c19 : x4_1.size + 2 ≤ 9223372036854775807
     ·rw [if_pos c19] at H
      have c19b0 := eq_true c19; have c19b1 : decide (x4_1.size + 2 ≤ 9223372036854775807) = true := decide_eq_true c19
      try have c19b2 : (9223372036854775807 < x4_1.size + 2) = False := eq_false (Nat.not_lt.2 c19)
      by_cases c20 : (x4_1 ++ (⟨#[71, 49]⟩ : ByteArray)).size + 2 ≤ 9223372036854775807
      ·rw [if_pos c20] at H
       have c20b0 := eq_true c20; have c20b1 : decide ((x4_1 ++ (⟨#[71, 49]⟩ : ByteArray)).size + 2 ≤ 9223372036854775807) = true := decide_eq_true c20
       try have c20b2 : (9223372036854775807 < (x4_1 ++ (⟨#[71, 49]⟩ : ByteArray)).size + 2) = False := eq_false (Nat.not_lt.2 c20)
       try (have c20b4 := c20b2; simp only [ByteArray.size_append', ByteArray.size_mk', List.size_toArray, List.length_cons, List.length_nil, Nat.reduceAdd, Nat.zero_add] at c20b4)
       by_cases c21 : 0 ≤ x5_1
       ·rw [if_pos c21] at H
        have c21b0 : decide (0 ≤ x5_1) = true := decide_eq_true c21; clear c21; replace H := Option.bind_eq_some_iff.mp H; obtain ⟨t109, A220, H⟩ := H; replace H : (if ((x4_1 ++ (⟨#[71, 49]⟩ : ByteArray)) ++ (⟨#[32, 88]⟩ : ByteArray)).size + t109.size ≤ 9223372036854775807 then (if (((x4_1 ++ (⟨#[71, 49]⟩ : ByteArray)) ++ (⟨#[32, 88]⟩ : ByteArray)) ++ t109).size + 2 ≤ 9223372036854775807 then ((spec_l6Dec.f k1 ((rd_T35 t101 x5_1).f1)).bind fun t111 => (if ((((x4_1 ++ (⟨#[71, 49]⟩ : ByteArray)) ++ (⟨#[32, 88]⟩ : ByteArray)) ++ t109) ++ (⟨#[32, 89]⟩ : ByteArray)).size + t111.size ≤ 9223372036854775807 then (if (((((x4_1 ++ (⟨#[71, 49]⟩ : ByteArray)) ++ (⟨#[32, 88]⟩ : ByteArray)) ++ t109) ++ (⟨#[32, 89]⟩ : ByteArray)) ++ t111).size + 1 ≤ 9223372036854775807 then (spec_l22Write.l0 k1 t101 ((((((x4_1 ++ (⟨#[71, 49]⟩ : ByteArray)) ++ (⟨#[32, 88]⟩ : ByteArray)) ++ t109) ++ (⟨#[32, 89]⟩ : ByteArray)) ++ t111) ++ (⟨#[10]⟩ : ByteArray)) (wrap64 (x5_1 + 1))) else (none)) else (none))) else (none)) else (none)) = some r := H; have A22 := Aside0.mk A220; clear A220
        by_cases c23 : ((x4_1 ++ (⟨#[71, 49]⟩ : ByteArray)) ++ (⟨#[32, 88]⟩ : ByteArray)).size + t109.size ≤ 9223372036854775807
        ·rw [if_pos c23] at H
         have c23b0 := eq_true c23; have c23b1 : decide (((x4_1 ++ (⟨#[71, 49]⟩ : ByteArray)) ++ (⟨#[32, 88]⟩ : ByteArray)).size + t109.size ≤ 9223372036854775807) = true := decide_eq_true c23
         try have c23b2 : (9223372036854775807 < ((x4_1 ++ (⟨#[71, 49]⟩ : ByteArray)) ++ (⟨#[32, 88]⟩ : ByteArray)).size + t109.size) = False := eq_false (Nat.not_lt.2 c23)
         try (have c23b4 := c23b2; simp only [ByteArray.size_append', ByteArray.size_mk', List.size_toArray, List.length_cons, List.length_nil, Nat.reduceAdd, Nat.zero_add] at c23b4)
         by_cases c24 : (((x4_1 ++ (⟨#[71, 49]⟩ : ByteArray)) ++ (⟨#[32, 88]⟩ : ByteArray)) ++ t109).size + 2 ≤ 9223372036854775807
         ·rw [if_pos c24] at H
          have c24b0 := eq_true c24; have c24b1 : decide ((((x4_1 ++ (⟨#[71, 49]⟩ : ByteArray)) ++ (⟨#[32, 88]⟩ : ByteArray)) ++ t109).size + 2 ≤ 9223372036854775807) = true := decide_eq_true c24
          try have c24b2 : (9223372036854775807 < (((x4_1 ++ (⟨#[71, 49]⟩ : ByteArray)) ++ (⟨#[32, 88]⟩ : ByteArray)) ++ t109).size + 2) = False := eq_false (Nat.not_lt.2 c24)
          try (have c24b4 := c24b2; simp only [ByteArray.size_append', ByteArray.size_mk', List.size_toArray, List.length_cons, List.length_nil, Nat.reduceAdd, Nat.zero_add] at c24b4)
          replace H := Option.bind_eq_some_iff.mp H; obtain ⟨t111, A250, H⟩ := H; replace H : (if ((((x4_1 ++ (⟨#[71, 49]⟩ : ByteArray)) ++ (⟨#[32, 88]⟩ : ByteArray)) ++ t109) ++ (⟨#[32, 89]⟩ : ByteArray)).size + t111.size ≤ 9223372036854775807 then (if (((((x4_1 ++ (⟨#[71, 49]⟩ : ByteArray)) ++ (⟨#[32, 88]⟩ : ByteArray)) ++ t109) ++ (⟨#[32, 89]⟩ : ByteArray)) ++ t111).size + 1 ≤ 9223372036854775807 then (spec_l22Write.l0 k1 t101 ((((((x4_1 ++ (⟨#[71, 49]⟩ : ByteArray)) ++ (⟨#[32, 88]⟩ : ByteArray)) ++ t109) ++ (⟨#[32, 89]⟩ : ByteArray)) ++ t111) ++ (⟨#[10]⟩ : ByteArray)) (wrap64 (x5_1 + 1))) else (none)) else (none)) = some r := H; have A25 := Aside0.mk A250; clear A250
          by_cases c26 : ((((x4_1 ++ (⟨#[71, 49]⟩ : ByteArray)) ++ (⟨#[32, 88]⟩ : ByteArray)) ++ t109) ++ (⟨#[32, 89]⟩ : ByteArray)).size + t111.size ≤ 9223372036854775807
          ·rw [if_pos c26] at H
           have c26b0 := eq_true c26; have c26b1 : decide (((((x4_1 ++ (⟨#[71, 49]⟩ : ByteArray)) ++ (⟨#[32, 88]⟩ : ByteArray)) ++ t109) ++ (⟨#[32, 89]⟩ : ByteArray)).size + t111.size ≤ 9223372036854775807) = true := decide_eq_true c26
           try have c26b2 : (9223372036854775807 < ((((x4_1 ++ (⟨#[71, 49]⟩ : ByteArray)) ++ (⟨#[32, 88]⟩ : ByteArray)) ++ t109) ++ (⟨#[32, 89]⟩ : ByteArray)).size + t111.size) = False := eq_false (Nat.not_lt.2 c26)
           try (have c26b4 := c26b2; simp only [ByteArray.size_append', ByteArray.size_mk', List.size_toArray, List.length_cons, List.length_nil, Nat.reduceAdd, Nat.zero_add] at c26b4)
           by_cases c27 : (((((x4_1 ++ (⟨#[71, 49]⟩ : ByteArray)) ++ (⟨#[32, 88]⟩ : ByteArray)) ++ t109) ++ (⟨#[32, 89]⟩ : ByteArray)) ++ t111).size + 1 ≤ 9223372036854775807
           ·rw [if_pos c27] at H
            have c27b0 := eq_true c27; have c27b1 : decide ((((((x4_1 ++ (⟨#[71, 49]⟩ : ByteArray)) ++ (⟨#[32, 88]⟩ : ByteArray)) ++ t109) ++ (⟨#[32, 89]⟩ : ByteArray)) ++ t111).size + 1 ≤ 9223372036854775807) = true := decide_eq_true c27
            try have c27b2 : (9223372036854775807 < (((((x4_1 ++ (⟨#[71, 49]⟩ : ByteArray)) ++ (⟨#[32, 88]⟩ : ByteArray)) ++ t109) ++ (⟨#[32, 89]⟩ : ByteArray)) ++ t111).size + 1) = False := eq_false (Nat.not_lt.2 c27)
            try (have c27b4 := c27b2; simp only [ByteArray.size_append', ByteArray.size_mk', List.size_toArray, List.length_cons, List.length_nil, Nat.reduceAdd, Nat.zero_add] at c27b4)
            have H' := Aside0.mk H; clear H; obtain ⟨Ao28, co28, eo28⟩ := Kd.R_slice HO_3.out; subst eo28
            try go_wp2
            have n0_ := Aside0.mk (Kd.R_drew HO_3.out); have n1_ := Aside0.mk (below_drew1 HB.out); clear HO_3; clear HB; have HO_3 := n0_; have HB := n1_; clear n0_ n1_; have p108 : 0 ≤ (x5_1 : Int) := of_decide_eq_true (by first | (with_reducible assumption) | assumption); have q108 : x5_1 < (t101.length : Int) := of_decide_eq_true (by first | (with_reducible assumption) | assumption); obtain ⟨ad108, e108, hx108_0, hx108_1⟩ := at_T35 (Kd.R_reads' HO_3.out).2.2 x5_1 p108 q108
            cases e108
            replace p108 := eq_true p108; replace q108 := eq_true q108; have p110 : 0 ≤ (x5_1 : Int) := of_decide_eq_true (by first | (with_reducible assumption) | assumption); have q110 : x5_1 < (t101.length : Int) := of_decide_eq_true (by first | (with_reducible assumption) | assumption); obtain ⟨ad110, e110, hx110_0, hx110_1⟩ := at_T35 (Kd.R_reads' HO_3.out).2.2 x5_1 p110 q110; obtain rfl : ad108 = ad110 := (by injection e110); replace p110 := eq_true p110; replace q110 := eq_true q110; refine start_ (n := 21) (S := fun w' => w'.cell? (ad108.add ((x5_1).toNat * 2)) = some (.int .i64 ((rd_T35 t101 x5_1).f0)) ∧ w'.cell? ⟨(ad108.add ((x5_1).toNat * 2)).block, (ad108.add ((x5_1).toNat * 2)).off + 1, none⟩ = some (.int .i64 ((rd_T35 t101 x5_1).f1)) ∧ w'.cell? (ad108.add ((x5_1).toNat * 2)) = some (.int .i64 ((rd_T35 t101 x5_1).f0)) ∧ w'.cell? ⟨(ad108.add ((x5_1).toNat * 2)).block, (ad108.add ((x5_1).toNat * 2)).off + 1, none⟩ = some (.int .i64 ((rd_T35 t101 x5_1).f1))) (ds := []) #[n_,n_,n_,n_,n_,n_,n_,n_,n_,n_,n_,n_,n_,n_,n_,n_,n_,n_,n_,n_,n_] (by kernel_rfl) rfl rfl ⟨hx108_0, hx108_1, hx110_0, hx110_1⟩ (fun hHeld => ?_); refine with_tabW spec_l22Write.tab9 spec_l22Write.bits9 (fun HT_ HW_ => ?_); generalize wr.drew = w29 at HO_3 HB hx108_0 hx108_1 hx110_0 hx110_1 hHeld ⊢; refine pure_ (i := 0) (N := some 17) (v := ?_) (a' := ?_) #[y_,n_,n_,n_,n_,n_,n_,n_,n_,n_,n_,n_,n_,n_,n_,n_,n_,n_,n_,n_,n_] rfl rfl (any_of HT_.out (by kernel_rfl)) (fun _ _ _ h => h) (Or.inl ⟨by rfl, ?_⟩) ?_ ?_
            rotate_left
            ·intro w'; go_simp; with_reducible rfl
            rotate_left
            ·simp only [Act.put, List.setIfInBounds_toArray, List.set_cons_zero, List.set_cons_succ, i64_w, i32_w]; rfl
            refine pure_ (i := 1) (N := some 18) (v := ?_) (a' := ?_) #[y_,y_,n_,n_,n_,n_,n_,n_,n_,n_,n_,n_,n_,n_,n_,n_,n_,n_,n_,n_,n_] rfl rfl (any_of HT_.out (by kernel_rfl)) (fun _ _ _ h => h) (Or.inl ⟨by rfl, ?_⟩) ?_ ?_
            rotate_left
            ·intro w'; go_simp; with_reducible rfl
            rotate_left
            ·simp only [Act.put, List.setIfInBounds_toArray, List.set_cons_zero, List.set_cons_succ, i64_w, i32_w]; rfl
            refine pure_ (i := 2) (N := some 19) (v := ?_) (a' := ?_) #[y_,y_,y_,n_,n_,n_,n_,n_,n_,n_,n_,n_,n_,n_,n_,n_,n_,n_,n_,n_,n_] rfl rfl (any_of HT_.out (by kernel_rfl)) (fun _ _ _ h => h) (Or.inl ⟨by rfl, ?_⟩) ?_ ?_
            rotate_left
            ·intro w'; go_simp; with_reducible rfl
            rotate_left
            ·simp only [Act.put, List.setIfInBounds_toArray, List.set_cons_zero, List.set_cons_succ, i64_w, i32_w]; rfl
            refine pure_ (i := 3) (N := some 20) (v := ?_) (a' := ?_) #[y_,y_,y_,y_,n_,n_,n_,n_,n_,n_,n_,n_,n_,n_,n_,n_,n_,n_,n_,n_,n_] rfl rfl (any_of HT_.out (by kernel_rfl)) (fun _ _ _ h => h) (Or.inl ⟨by rfl, ?_⟩) ?_ ?_
            rotate_left
            ·intro w'; go_simp; with_reducible rfl
            rotate_left
            ·simp only [Act.put, List.setIfInBounds_toArray, List.set_cons_zero, List.set_cons_succ, i64_w, i32_w]; rfl
            refine pure_ (i := 4) (N := some 21) (v := ?_) (a' := ?_) #[y_,y_,y_,y_,y_,n_,n_,n_,n_,n_,n_,n_,n_,n_,n_,n_,n_,n_,n_,n_,n_] rfl rfl (any_of HT_.out (by kernel_rfl)) (fun _ _ _ h => h) (Or.inl ⟨by rfl, ?_⟩) ?_ ?_
            rotate_left
            ·intro w'; go_simp; with_reducible rfl
            rotate_left
            ·simp only [Act.put, List.setIfInBounds_toArray, List.set_cons_zero, List.set_cons_succ, i64_w, i32_w]; rfl
            refine pure_ (i := 5) (N := some 22) (v := ?_) (a' := ?_) #[y_,y_,y_,y_,y_,y_,n_,n_,n_,n_,n_,n_,n_,n_,n_,n_,n_,n_,n_,n_,n_] rfl rfl (any_of HT_.out (by kernel_rfl)) (fun _ _ _ h => h) (Or.inl ⟨by rfl, ?_⟩) ?_ ?_
            rotate_left
            ·intro w'; go_simp; with_reducible rfl
            rotate_left
            ·simp only [Act.put, List.setIfInBounds_toArray, List.set_cons_zero, List.set_cons_succ, i64_w, i32_w]; rfl
            refine pure_ (i := 6) (N := some 23) (v := ?_) (a' := ?_) #[y_,y_,y_,y_,y_,y_,y_,n_,n_,n_,n_,n_,n_,n_,n_,n_,n_,n_,n_,n_,n_] rfl rfl (any_of HT_.out (by kernel_rfl)) (fun _ _ _ h => h) (Or.inl ⟨by rfl, ?_⟩) ?_ ?_
            rotate_left
            ·intro w'; go_simp; with_reducible rfl
            rotate_left
            ·simp only [Act.put, List.setIfInBounds_toArray, List.set_cons_zero, List.set_cons_succ, i64_w, i32_w]; rfl
            refine pure_ (i := 7) (N := some 24) (v := ?_) (a' := ?_) #[y_,y_,y_,y_,y_,y_,y_,y_,n_,n_,n_,n_,n_,n_,n_,n_,n_,n_,n_,n_,n_] rfl rfl (any_of HT_.out (by kernel_rfl)) (fun _ _ _ h => h) (Or.inl ⟨by rfl, ?_⟩) ?_ ?_
            rotate_left
            ·intro w'; go_simp; with_reducible rfl
            rotate_left
            ·simp only [Act.put, List.setIfInBounds_toArray, List.set_cons_zero, List.set_cons_succ, i64_w, i32_w]; rfl
            refine pure_ (i := 12) (N := some 29) (v := ?_) (a' := ?_) #[y_,y_,y_,y_,y_,y_,y_,y_,n_,n_,n_,n_,y_,n_,n_,n_,n_,n_,n_,n_,n_] rfl rfl (any_of HT_.out (by kernel_rfl)) (fun _ _ _ h => h) (Or.inl ⟨by rfl, ?_⟩) ?_ ?_
            rotate_left
            ·intro w'; go_simp; with_reducible rfl
            rotate_left
            ·simp only [Act.put, List.setIfInBounds_toArray, List.set_cons_zero, List.set_cons_succ, i64_w, i32_w]; rfl
            refine pure_ (i := 13) (N := some 30) (v := ?_) (a' := ?_) #[y_,y_,y_,y_,y_,y_,y_,y_,n_,n_,n_,n_,y_,y_,n_,n_,n_,n_,n_,n_,n_] rfl rfl (any_of HT_.out (by kernel_rfl)) (fun _ _ _ h => h) (Or.inl ⟨by rfl, ?_⟩) ?_ ?_
            rotate_left
            ·intro w'; go_simp; with_reducible rfl
            rotate_left
            ·simp only [Act.put, List.setIfInBounds_toArray, List.set_cons_zero, List.set_cons_succ, i64_w, i32_w]; rfl
            refine pure_ (i := 14) (N := some 31) (v := ?_) (a' := ?_) #[y_,y_,y_,y_,y_,y_,y_,y_,n_,n_,n_,n_,y_,y_,y_,n_,n_,n_,n_,n_,n_] rfl rfl (any_of HT_.out (by kernel_rfl)) (fun _ _ _ h => h) (Or.inl ⟨by rfl, ?_⟩) ?_ ?_
            rotate_left
            ·intro w'; go_simp; with_reducible rfl
            rotate_left
            ·simp only [Act.put, List.setIfInBounds_toArray, List.set_cons_zero, List.set_cons_succ, i64_w, i32_w]; rfl
            refine pure_ (i := 15) (N := some 32) (v := ?_) (a' := ?_) #[y_,y_,y_,y_,y_,y_,y_,y_,n_,n_,n_,n_,y_,y_,y_,y_,n_,n_,n_,n_,n_] rfl rfl (any_of HT_.out (by kernel_rfl)) (fun _ _ _ h => h) (Or.inl ⟨by rfl, ?_⟩) ?_ ?_
            rotate_left
            ·intro w'; go_simp; with_reducible rfl
            rotate_left
            ·simp only [Act.put, List.setIfInBounds_toArray, List.set_cons_zero, List.set_cons_succ, i64_w, i32_w]; rfl
            refine take_ (i := 8) (N := some 25) (v := ?_) (a' := ?_) #[y_,y_,y_,y_,y_,y_,y_,y_,y_,n_,n_,n_,y_,y_,y_,y_,n_,n_,n_,n_,n_] rfl rfl (take_ofW HT_.out HW_.out (by kernel_rfl)) (fun _ _ _ h => h) (Or.inl ⟨by rfl, ?_⟩) hHeld ?_ ?_
            rotate_left
            ·rintro w' ⟨s0, s1, s2, s3⟩; go_simp; with_reducible rfl
            rotate_left
            ·simp only [Act.put, List.setIfInBounds_toArray, List.set_cons_zero, List.set_cons_succ, i64_w, i32_w]; rfl
            refine take_ (i := 16) (N := some 33) (v := ?_) (a' := ?_) #[y_,y_,y_,y_,y_,y_,y_,y_,y_,n_,n_,n_,y_,y_,y_,y_,y_,n_,n_,n_,n_] rfl rfl (take_ofW HT_.out HW_.out (by kernel_rfl)) (fun _ _ _ h => h) (Or.inl ⟨by rfl, ?_⟩) hHeld ?_ ?_
            rotate_left
            ·rintro w' ⟨s0, s1, s2, s3⟩; go_simp; with_reducible rfl
            rotate_left
            ·simp only [Act.put, List.setIfInBounds_toArray, List.set_cons_zero, List.set_cons_succ, i64_w, i32_w]; rfl
            refine one_ (i := 9) (N := some 26) #[y_,y_,y_,y_,y_,y_,y_,y_,y_,y_,n_,n_,y_,y_,y_,y_,y_,n_,n_,n_,n_] rfl rfl (one_of HT_.out (by kernel_rfl)) (by decide) (fun K hK => ?_); refine goes_ Tryd.func55 (by kernel_rfl) rfl #[.int .i64 ((rd_T35 t101 x5_1).f0)] (by rfl) rfl rfl (by (try simp only [List.map_toArray, List.map_cons, List.map_nil]); first | done | rfl | (simp only [List.length_drop, List.length_take]; rfl)) ?_
            with_reducible refine (spec_l6Dec.calls k1 ((rd_T35 t101 x5_1).f0) t109 _ A22.out).mono ?_
            rintro e w30 ⟨rfl, hb⟩; have HS0_ := (hb.cell (World.block_lt_of_cell? _ _ (hHeld.1))).trans (hHeld.1); have HS1_ := (hb.cell (World.block_lt_of_cell? _ _ (hHeld.2.1))).trans (hHeld.2.1); have HS2_ := (hb.cell (World.block_lt_of_cell? _ _ (hHeld.2.2.1))).trans (hHeld.2.2.1); have HS3_ := (hb.cell (World.block_lt_of_cell? _ _ (hHeld.2.2.2))).trans (hHeld.2.2.2); refine ⟨_, rfl, ?_⟩; have n0_ := Aside0.mk (Kd.R_below (by (with_reducible repeat (first | apply Kd.R_alloc | apply Kd.R_drewN | apply Kd.R_drew)); exact HO_3.out) hb); have n1_ := Aside0.mk (below_step (by repeat (first | (with_reducible first | exact HB.out | apply below_alloc | apply pw_below_drewN | apply below_drew1) | exact HB.out)) hb); clear HO_3; clear HB; have HO_3 := n0_; have HB := n1_; clear n0_ n1_; (try clear hb); (try clear hb2); (try clear hk); (try clear hi); refine hK.out _ _ ⟨HS0_, HS1_, HS2_, HS3_⟩ (fun hHeld => ?_); clear hK K; refine norm_ (a' := ?_) ?_ ?_
            rotate_left
            ·show Act.put _ (some 26) _ = _
             simp only [Act.put, List.setIfInBounds_toArray, List.set_cons_zero, List.set_cons_succ, i64_w, i32_w]; rfl
            refine pure_ (i := 10) (N := some 27) (v := ?_) (a' := ?_) #[y_,y_,y_,y_,y_,y_,y_,y_,y_,y_,y_,n_,y_,y_,y_,y_,y_,n_,n_,n_,n_] rfl rfl (any_of HT_.out (by kernel_rfl)) (fun _ _ _ h => h) (Or.inl ⟨by rfl, ?_⟩) ?_ ?_
            rotate_left
            ·intro w'; go_simp; with_reducible rfl
            rotate_left
            ·simp only [Act.put, List.setIfInBounds_toArray, List.set_cons_zero, List.set_cons_succ, i64_w, i32_w]; rfl
            refine pure_ (i := 11) (N := some 28) (v := ?_) (a' := ?_) #[y_,y_,y_,y_,y_,y_,y_,y_,y_,y_,y_,y_,y_,y_,y_,y_,y_,n_,n_,n_,n_] rfl rfl (any_of HT_.out (by kernel_rfl)) (fun _ _ _ h => h) (Or.inl ⟨by rfl, ?_⟩) ?_ ?_
            rotate_left
            ·intro w'; go_simp; with_reducible rfl
            rotate_left
            ·simp only [Act.put, List.setIfInBounds_toArray, List.set_cons_zero, List.set_cons_succ, i64_w, i32_w]; rfl
            refine one_ (i := 17) (N := some 34) #[y_,y_,y_,y_,y_,y_,y_,y_,y_,y_,y_,y_,y_,y_,y_,y_,y_,y_,n_,n_,n_] rfl rfl (one_of HT_.out (by kernel_rfl)) (by decide) (fun K hK => ?_); refine goes_ Tryd.func55 (by kernel_rfl) rfl #[.int .i64 ((rd_T35 t101 x5_1).f1)] (by rfl) rfl rfl (by (try simp only [List.map_toArray, List.map_cons, List.map_nil]); first | done | rfl | (simp only [List.length_drop, List.length_take]; rfl)) ?_
            with_reducible refine (spec_l6Dec.calls k1 ((rd_T35 t101 x5_1).f1) t111 _ A25.out).mono ?_
            rintro e w31 ⟨rfl, hb⟩; have HS0_ := (hb.cell (World.block_lt_of_cell? _ _ (hHeld.1))).trans (hHeld.1); have HS1_ := (hb.cell (World.block_lt_of_cell? _ _ (hHeld.2.1))).trans (hHeld.2.1); have HS2_ := (hb.cell (World.block_lt_of_cell? _ _ (hHeld.2.2.1))).trans (hHeld.2.2.1); have HS3_ := (hb.cell (World.block_lt_of_cell? _ _ (hHeld.2.2.2))).trans (hHeld.2.2.2); refine ⟨_, rfl, ?_⟩; have n0_ := Aside0.mk (Kd.R_below (by (with_reducible repeat (first | apply Kd.R_alloc | apply Kd.R_drewN | apply Kd.R_drew)); exact HO_3.out) hb); have n1_ := Aside0.mk (below_step (by repeat (first | (with_reducible first | exact HB.out | apply below_alloc | apply pw_below_drewN | apply below_drew1) | exact HB.out)) hb); clear HO_3; clear HB; have HO_3 := n0_; have HB := n1_; clear n0_ n1_; (try clear hb); (try clear hb2); (try clear hk); (try clear hi); refine hK.out _ _ ⟨HS0_, HS1_, HS2_, HS3_⟩ (fun hHeld => ?_); clear hK K; refine norm_ (a' := ?_) ?_ ?_
            rotate_left
            ·show Act.put _ (some 34) _ = _
             simp only [Act.put, List.setIfInBounds_toArray, List.set_cons_zero, List.set_cons_succ, i64_w, i32_w]; rfl
            refine pure_ (i := 18) (N := some 35) (v := ?_) (a' := ?_) #[y_,y_,y_,y_,y_,y_,y_,y_,y_,y_,y_,y_,y_,y_,y_,y_,y_,y_,y_,n_,n_] rfl rfl (any_of HT_.out (by kernel_rfl)) (fun _ _ _ h => h) (Or.inl ⟨by rfl, ?_⟩) ?_ ?_
            rotate_left
            ·intro w'; go_simp; with_reducible rfl
            rotate_left
            ·simp only [Act.put, List.setIfInBounds_toArray, List.set_cons_zero, List.set_cons_succ, i64_w, i32_w]; rfl
            refine pure_ (i := 19) (N := some 36) (v := ?_) (a' := ?_) #[y_,y_,y_,y_,y_,y_,y_,y_,y_,y_,y_,y_,y_,y_,y_,y_,y_,y_,y_,y_,n_] rfl rfl (any_of HT_.out (by kernel_rfl)) (fun _ _ _ h => h) (Or.inl ⟨by rfl, ?_⟩) ?_ ?_
            rotate_left
            ·intro w'; go_simp; with_reducible rfl
            rotate_left
            ·simp only [Act.put, List.setIfInBounds_toArray, List.set_cons_zero, List.set_cons_succ, i64_w, i32_w]; rfl
            refine pure_ (i := 20) (N := some 4) (v := ?_) (a' := ?_) #[y_,y_,y_,y_,y_,y_,y_,y_,y_,y_,y_,y_,y_,y_,y_,y_,y_,y_,y_,y_,y_] rfl rfl (any_of HT_.out (by kernel_rfl)) (fun _ _ _ h => h) (Or.inl ⟨by rfl, ?_⟩) ?_ ?_
            rotate_left
            ·intro w'; go_simp; with_reducible rfl
            rotate_left
            ·simp only [Act.put, List.setIfInBounds_toArray, List.set_cons_zero, List.set_cons_succ, i64_w, i32_w]; rfl
            refine done_ (done_of HT_.out (by kernel_rfl)) ?_
            try go_wp2
            go_roundg k1
            case measure => have := HK1.out; omega
            case rel => exact ⟨((((((x4_1 ++ (⟨#[71, 49]⟩ : ByteArray)) ++ (⟨#[32, 88]⟩ : ByteArray)) ++ t109) ++ (⟨#[32, 89]⟩ : ByteArray)) ++ t111) ++ (⟨#[10]⟩ : ByteArray)), (wrap64 (x5_1 + 1)), (by first | rfl | (simp; done) | (simp [*]; done)), (by first | rfl | (simp; done) | (simp [*]; done)), H', ⟨by have := HK1.out; omega⟩, ⟨by (with_reducible repeat (first | apply Kd.R_alloc | apply Kd.R_drewN | apply Kd.R_drew)); exact HO_3.out⟩, ⟨by repeat (first | (with_reducible first | exact HB.out | apply below_alloc | apply pw_below_drewN | apply below_drew1) | exact HB.out)⟩⟩
           ·rw [if_neg c27] at H; exact absurd H (by simp)
          ·rw [if_neg c26] at H; exact absurd H (by simp)
         ·rw [if_neg c24] at H; exact absurd H (by simp)
        ·rw [if_neg c23] at H; exact absurd H (by simp)
       ·rw [if_neg c21] at H; exact absurd H (by simp)
      ·rw [if_neg c20] at H; exact absurd H (by simp)
     ·rw [if_neg c19] at H; exact absurd H (by simp)
   ·rw [if_neg c4] at H
    have c4b0 : decide (x5_1 < (t101.length : Int)) = false := decide_eq_false c4; clear c4; obtain rfl := Option.some.inj H; obtain ⟨Ao32, co32, eo32⟩ := Kd.R_slice HO_3.out; subst eo32; go_wp2; go_ret
    exact ⟨by first | rfl | (simp [errW_none, errW_some] <;> rfl) | (simp [*, errW_none, errW_some] <;> rfl), by repeat (first | (with_reducible first | exact HB.out | apply below_alloc | apply pw_below_drewN | apply below_drew1) | exact HB.out)⟩

end Go.Proofs.YtdacpdhpifocbaaDoor.P

namespace Go.Proofs.YtdacpdhpifocbaaDoor.P
open Go.RowKit Go.Proofs.YtdacpdhpifocbaaDoorW.PrintWords Go.Proofs.YtdacpdhpifocbaaDoorW.PrintLast Go.Proofs.YtdacpdhpifocbaaDoorW.PrintMore
attribute [local go_sem] max2_int min2_int max_two min_two max_three min_three max_four min_four   -- for this text's walks alone
set_option linter.unusedVariables false
set_option linter.unusedSimpArgs false

/-! ### spec_CodeWrite: function 11 -/
def spec_CodeWrite.f (k : Nat) (l0 : List (S35)) : Option (ByteArray) := (spec_l22Path.f k l0).bind fun t101 => (if t101 = true then ((spec_l22Write.f k l0).bind fun t102 => (some t102)) else (some (⟨#[]⟩ : ByteArray)))
theorem spec_CodeWrite.mono : ∀ a0 k, LeO (spec_CodeWrite.f k a0) (spec_CodeWrite.f (k + 1) a0) := by
  intro a0 k
  unfold spec_CodeWrite.f
  repeat' first
      | (with_reducible exact spec_l22Path.mono _ _)
      | (with_reducible exact spec_l22Write.mono _ _)
      | (with_reducible exact LeO.refl _)
      | (with_reducible exact LeO.none _)
      | (with_reducible refine LeO.ite ?_ ?_)
      | (with_reducible refine LeO.bind ?_ (fun _ => ?_))
      | exact spec_l22Path.mono _ _
      | exact spec_l22Write.mono _ _
      | exact LeO.none _
      | refine LeO.ite ?_ ?_
      | refine LeO.bind ?_ (fun _ => ?_)
set_option maxHeartbeats 8000000 in
set_option maxRecDepth 100000 in
theorem spec_CodeWrite.calls (k : Nat) (A0 : Option Addr) (c0 : Nat) (l0 : List (S35)) (r : ByteArray) (w : World) (hr0 : Kd.C k35 w A0 l0.length l0) (hc0 : l0.length ≤ c0) (h : spec_CodeWrite.f k l0 = some r) :
  Calls Tryd.prog 11 #[.slice A0 l0.length c0] w fun e w' => e = .returned (.string r) ∧ Below w.heap.size w w' := by
 have HR0 := Aside0.mk hr0; have HC0 := Aside0.mk hc0; clear hr0 hc0; have HB := Aside0.mk (Below.refl w.heap.size w); have H : ((spec_l22Path.f k l0).bind fun t101 => (if t101 = true then ((spec_l22Write.f k l0).bind fun t102 => (some t102)) else (some (⟨#[]⟩ : ByteArray)))) = some r := h; clear h; replace H := Option.bind_eq_some_iff.mp H; obtain ⟨t101, A20, H⟩ := H; replace H : (if t101 = true then ((spec_l22Write.f k l0).bind fun t102 => (some t102)) else (some (⟨#[]⟩ : ByteArray))) = some r := H; have A2 := Aside0.mk A20; clear A20
 by_cases c3 : t101 = true
 ·subst c3
  have H1 : ((spec_l22Write.f k l0).bind fun t102 => (some t102)) = some r := by rw [if_pos rfl] at H; exact H
  clear H; have H := H1; clear H1; replace H := Option.bind_eq_some_iff.mp H; obtain ⟨t102, A40, H⟩ := H; replace H : (some t102) = some r := H; have A4 := Aside0.mk A40; clear A40; obtain rfl := Option.some.inj H; go_enter Tryd.func11, Tryd.ntmps11; go_wp2_with (first | ((with_reducible refine gate_callee (f := 28) rfl ?_); refine goesL_ (some 4) rfl rfl Tryd.func28 (by kernel_rfl) rfl #[.slice A0 l0.length c0] rfl (by (try simp only [List.map_toArray, List.map_cons, List.map_nil]); first | done | rfl | (simp only [List.length_drop, List.length_take]; rfl)) ?_; (with_reducible refine (spec_l22Path.calls k _ _ l0 true _ ?side1 ?side2 A2.out).mono ?_); (case side1 => repeat (first | exact HR0.out | (with_reducible refine Kd.C_alloc ?_ _) | (with_reducible refine Kd.C_drewN ?_ _) | (with_reducible refine Kd.C_drew ?_))); (case side2 => exact HC0.out); rintro e w5 ⟨rfl, hb⟩; refine ⟨_, rfl, ?_⟩; have n0_ := Aside0.mk (below_step (by repeat (first | (with_reducible first | exact HB.out | apply below_alloc | apply pw_below_drewN | apply below_drew1) | exact HB.out)) hb); clear HB; have HB := n0_; clear n0_; (try clear hb); (try clear hb2); (try clear hk); (try clear hi)) | ((with_reducible refine gate_callee (f := 29) rfl ?_); refine goesL_ (some 7) rfl rfl Tryd.func29 (by kernel_rfl) rfl #[.slice A0 l0.length c0] rfl (by (try simp only [List.map_toArray, List.map_cons, List.map_nil]); first | done | rfl | (simp only [List.length_drop, List.length_take]; rfl)) ?_; (with_reducible refine (spec_l22Write.calls k _ _ l0 t102 _ ?side1 ?side2 A4.out).mono ?_); (case side1 => repeat (first | exact (Kd.C_below HR0.out HB.out) | (with_reducible refine Kd.C_alloc ?_ _) | (with_reducible refine Kd.C_drewN ?_ _) | (with_reducible refine Kd.C_drew ?_))); (case side2 => exact HC0.out); rintro e w6 ⟨rfl, hb⟩; refine ⟨_, rfl, ?_⟩; have n0_ := Aside0.mk (below_step (by repeat (first | (with_reducible first | exact HB.out | apply below_alloc | apply pw_below_drewN | apply below_drew1) | exact HB.out)) hb); clear HB; have HB := n0_; clear n0_; (try clear hb); (try clear hb2); (try clear hk); (try clear hi))); go_ret
  exact ⟨by first | rfl | (simp [errW_none, errW_some] <;> rfl) | (simp [*, errW_none, errW_some] <;> rfl), by repeat (first | (with_reducible first | exact HB.out | apply below_alloc | apply pw_below_drewN | apply below_drew1) | exact HB.out)⟩
 ·replace c3 := Bool.eq_false_iff.mpr c3
  subst c3
  have H1 : (some (⟨#[]⟩ : ByteArray)) = some r := by rw [if_neg (show ¬ (false = true) by decide)] at H; exact H
  clear H; have H := H1; clear H1; obtain rfl := Option.some.inj H; go_enter Tryd.func11, Tryd.ntmps11; go_wp2_with (first | ((with_reducible refine gate_callee (f := 28) rfl ?_); refine goesL_ (some 4) rfl rfl Tryd.func28 (by kernel_rfl) rfl #[.slice A0 l0.length c0] rfl (by (try simp only [List.map_toArray, List.map_cons, List.map_nil]); first | done | rfl | (simp only [List.length_drop, List.length_take]; rfl)) ?_; (with_reducible refine (spec_l22Path.calls k _ _ l0 false _ ?side1 ?side2 A2.out).mono ?_); (case side1 => repeat (first | exact HR0.out | (with_reducible refine Kd.C_alloc ?_ _) | (with_reducible refine Kd.C_drewN ?_ _) | (with_reducible refine Kd.C_drew ?_))); (case side2 => exact HC0.out); rintro e w7 ⟨rfl, hb⟩; refine ⟨_, rfl, ?_⟩; have n0_ := Aside0.mk (below_step (by repeat (first | (with_reducible first | exact HB.out | apply below_alloc | apply pw_below_drewN | apply below_drew1) | exact HB.out)) hb); clear HB; have HB := n0_; clear n0_; (try clear hb); (try clear hb2); (try clear hk); (try clear hi))); go_ret
  exact ⟨by first | rfl | (simp [errW_none, errW_some] <;> rfl) | (simp [*, errW_none, errW_some] <;> rfl), by repeat (first | (with_reducible first | exact HB.out | apply below_alloc | apply pw_below_drewN | apply below_drew1) | exact HB.out)⟩

end Go.Proofs.YtdacpdhpifocbaaDoor.P

namespace Go.Proofs.YtdacpdhpifocbaaDoor.Q
open Go.RowKit Go.Proofs.YtdacpdhpifocbaaDoor.P Go.Proofs.YtdacpdhpifocbaaDoor.Ch Go.Proofs.YtdacpdhpifocbaaDoorW.PrintWords Go.Proofs.YtdacpdhpifocbaaDoorW.PrintLast
set_option linter.unusedVariables false

theorem mem_g0 {l : List PT} {p : PT} : p ∈ l ↔ ∃ j, j < l.length ∧ g l j = p := by
  rw [List.mem_iff_getElem]
  exact ⟨fun ⟨j, h, e⟩ => ⟨j, h, by rw [g_eq h]; exact e⟩, fun ⟨j, h, e⟩ => ⟨j, h, by rw [← g_eq h]; exact e⟩⟩
theorem turns_mem {l : List PT} {p : PT} (h : p ∈ turns l) : p ∈ l := by
  unfold turns turnsFrom at h
  obtain ⟨j, hj, rfl⟩ := List.mem_map.1 h
  have := (List.mem_filter.1 hj).1
  rw [List.mem_range'] at this
  obtain ⟨i, hi, rfl⟩ := this
  exact mem_g0.2 ⟨0 + 1 * i, by omega, rfl⟩
theorem turns_le (l : List PT) : (turns l).length ≤ l.length := by
  unfold turns turnsFrom
  rw [List.length_map]
  exact Nat.le_trans (List.length_filter_le _ _) (by simp)
theorem path_ok {l : List PT} (h : IsPath l) : ∀ p ∈ l, okP p = true := fun p hp => by
  obtain ⟨j, hj, rfl⟩ := mem_g0.1 hp
  exact (h.2.2 j (Nat.zero_le _) hj).1
theorem codeTurns_small (l : List PT) : smallPts (codeTurns l) = true := by
  unfold codeTurns
  split
  · rename_i h
    simp only [smallPts, Bool.and_eq_true, List.all_eq_true, decide_eq_true_eq]
    refine ⟨Nat.le_trans (turns_le l) h.2.1, fun p hp => ?_⟩
    have := okP_iff.1 (path_ok h p (turns_mem hp))
    omega
  · rfl
/-- the text of a path, or none -/
noncomputable def cwText (l : List PT) : ByteArray := ⟨(wlines 0 (codeTurns l)).toArray⟩
theorem implCodeWrite (l : List PT) (hl : l.length < 1000000000000000000) (k : Nat) (hk : l.length + 2 ≤ k) : impl_CodeWrite.f k l = some (cwText l) := by
  unfold impl_CodeWrite.f cwText
  rw [implCodeTurns l hl k hk]
  simp only [Option.bind_some]
  rw [if_pos (codeTurns_small l)]
theorem dec1 (x : Int) (h0 : 0 ≤ x) (h9 : x ≤ 9) (k : Nat) (hk : 1 ≤ k) : spec_l6Dec.f k x = some ⟨#[UInt8.ofNat (48 + x.toNat)]⟩ := by
  obtain ⟨k, rfl⟩ : ∃ m, k = m + 1 := ⟨k - 1, by omega⟩
  simp only [spec_l6Dec.f]
  rw [if_neg (by omega), if_neg (by omega), if_pos (by omega), w_id (by omega) (by omega)]
  congr 1
  unfold strOfNums
  simp only [List.map_cons, List.map_nil]
  congr 3
  rw [show (48 + x) % 256 = ((48 + x.toNat : Nat) : Int) by omega, Int.toNat_natCast]
theorem line_app (b : ByteArray) (i : Nat) (p : PT) (a : UInt8) (ha : a = if i = 0 then 48 else 49) : ((((((b ++ (⟨#[71, a]⟩ : ByteArray)) ++ (⟨#[32, 88]⟩ : ByteArray)) ++ (⟨#[UInt8.ofNat (48 + p.f0.toNat)]⟩ : ByteArray)) ++ (⟨#[32, 89]⟩ : ByteArray)) ++ (⟨#[UInt8.ofNat (48 + p.f1.toNat)]⟩ : ByteArray)) ++ (⟨#[10]⟩ : ByteArray)) = b ++ ⟨(lineL i p.f0.toNat p.f1.toNat).toArray⟩ := by
  subst ha
  apply ByteArray.ext
  simp [ByteArray.data_append, lineL, Array.append_assoc]
theorem l22Write_l0 (t : List PT) (ht : t.length ≤ 400) (hok : ∀ p ∈ t, okP p = true) : ∀ (d k i : Nat) (b : ByteArray), t.length - i = d → i ≤ t.length → d + 1 < k → b.size ≤ 9 * i →
    spec_l22Write.l0 k t b (i : Int) = some (b ++ ⟨(wlines i (t.drop i)).toArray⟩) := by
  intro d
  induction d with
  | zero =>
    intro k i b hd hi hk hb
    obtain ⟨k, rfl⟩ : ∃ m, k = m + 1 := ⟨k - 1, by omega⟩
    simp only [spec_l22Write.l0]
    rw [if_neg (by omega), List.drop_eq_nil_of_le (by omega)]
    congr 1
    apply ByteArray.ext
    simp [wlines, ByteArray.data_append]
  | succ d ih =>
    intro k i b hd hi hk hb
    obtain ⟨k, rfl⟩ : ∃ m, k = m + 1 := ⟨k - 1, by omega⟩
    have ok := okP_iff.1 (hok _ (mem_g0.2 ⟨i, by omega, rfl⟩))
    have hd0 := dec1 (g t i).f0 (by omega) (by omega) k (by omega)
    have hd1 := dec1 (g t i).f1 (by omega) (by omega) k (by omega)
    have sz : ∀ (x : ByteArray) (y : Array UInt8), (x ++ (⟨y⟩ : ByteArray)).size = x.size + y.size := fun x y => by rw [ByteArray.size_append]; rfl
    have sz1 : ∀ x : UInt8, (⟨#[x]⟩ : ByteArray).size = 1 := fun _ => rfl
    have key : ∀ a : UInt8, a = (if i = 0 then 48 else 49) → spec_l22Write.l0 k t ((((((b ++ (⟨#[71, a]⟩ : ByteArray)) ++ (⟨#[32, 88]⟩ : ByteArray)) ++ (⟨#[UInt8.ofNat (48 + (g t i).f0.toNat)]⟩ : ByteArray)) ++ (⟨#[32, 89]⟩ : ByteArray)) ++ (⟨#[UInt8.ofNat (48 + (g t i).f1.toNat)]⟩ : ByteArray)) ++ (⟨#[10]⟩ : ByteArray)) (wrap64 ((i : Int) + 1)) = some (b ++ ⟨(wlines i (t.drop i)).toArray⟩) := fun a ha => by
      rw [line_app b i (g t i) a ha, w_succ (by omega), ih k (i + 1) _ (by omega) (by omega) (by omega) (by rw [sz]; simp [lineL]; omega)]
      rw [List.drop_eq_getElem_cons (show i < t.length by omega), ← g_eq]
      congr 1
      apply ByteArray.ext
      simp [wlines, ByteArray.data_append, Array.append_assoc]
    simp only [spec_l22Write.l0]
    rw [if_pos (by omega), rd_nat, hd0, hd1]
    simp only [Option.bind_some, sz, sz1, List.size_toArray, List.length_cons, List.length_nil]
    by_cases h0 : i = 0
    · rw [if_pos (by omega), if_pos (by omega), if_pos (by omega), if_pos (by omega), if_pos (by omega), if_pos (by omega), if_pos (by omega), if_pos (by omega)]
      exact key 48 (by rw [if_pos h0])
    · rw [if_neg (by omega), if_pos (by omega), if_pos (by omega), if_pos (by omega), if_pos (by omega), if_pos (by omega), if_pos (by omega), if_pos (by omega)]
      exact key 49 (by rw [if_neg h0])
theorem specl22Write (l : List PT) (hp : IsPath l) (k : Nat) (hk : l.length + 3 ≤ k) : spec_l22Write.f k l = some (cwText l) := by
  unfold spec_l22Write.f cwText
  rw [l22Turns_f l hp k (by omega)]
  simp only [Option.bind_some]
  have := l22Write_l0 (turns l) (Nat.le_trans (turns_le l) hp.2.1) (fun p h => path_ok hp p (turns_mem h)) (turns l).length k 0 ⟨#[]⟩ (by omega) (by omega) (by have := turns_le l; omega) (by decide)
  rw [show ((0 : Nat) : Int) = 0 from rfl] at this
  rw [this, List.drop_zero, codeTurns_path hp]
  congr 1
  try (apply ByteArray.ext; simp [ByteArray.data_append])
theorem specCodeWrite (l : List PT) (hl : l.length < 1000000000000000000) (k : Nat) (hk : l.length + 3 ≤ k) : spec_CodeWrite.f k l = some (cwText l) := by
  obtain ⟨b, hb, hb'⟩ := l22Path_f l hl k (by omega)
  unfold spec_CodeWrite.f
  rw [hb]
  simp only [Option.bind_some]
  by_cases hp : IsPath l
  · rw [if_pos (hb'.2 hp), specl22Write l hp k hk]
    rfl
  · rw [if_neg (fun h => hp (hb'.1 h))]
    unfold cwText codeTurns
    rw [if_neg hp]
    rfl
end Go.Proofs.YtdacpdhpifocbaaDoor.Q

namespace Go.Proofs.YtdacpdhpifocbaaDoor.P
open Go.RowKit Go.Proofs.YtdacpdhpifocbaaDoorW.PrintWords Go.Proofs.YtdacpdhpifocbaaDoorW.PrintLast Go.Proofs.YtdacpdhpifocbaaDoorW.PrintMore
attribute [local go_sem] max2_int min2_int max_two min_two max_three min_three max_four min_four   -- for this text's walks alone
set_option linter.unusedVariables false
set_option linter.unusedSimpArgs false

/-! ### laws_FnExactCodeWrite: function 3 -/
def laws_FnExactCodeWrite.f (k : Nat) (l0 : List (S44)) : Option (Bool) := (laws_szPtS.f l0 1048576).bind fun t101 => (if t101 < 0 then (some true) else ((laws_toPtS.f k l0).bind fun t102 => ((spec_CodeWrite.f k t102).bind fun t105 => ((laws_toPtS.f k l0).bind fun t106 => ((impl_CodeWrite.f k t106).bind fun t109 => (if t109.toList = t105.toList then ((laws_toPtS.f k l0).bind fun t110 => ((laws_eqPtS.f k t106 t110).bind fun t113 => (if t113 = true then (some true) else (some false)))) else (some false)))))))
theorem laws_FnExactCodeWrite.mono : ∀ a0 k, LeO (laws_FnExactCodeWrite.f k a0) (laws_FnExactCodeWrite.f (k + 1) a0) := by
  intro a0 k
  unfold laws_FnExactCodeWrite.f
  repeat' first
      | (with_reducible exact impl_CodeWrite.mono _ _)
      | (with_reducible exact laws_eqPtS.mono _ _ _)
      | (with_reducible exact laws_toPtS.mono _ _)
      | (with_reducible exact spec_CodeWrite.mono _ _)
      | (with_reducible exact LeO.refl _)
      | (with_reducible exact LeO.none _)
      | (with_reducible refine LeO.ite ?_ ?_)
      | (with_reducible refine LeO.bind ?_ (fun _ => ?_))
      | exact impl_CodeWrite.mono _ _
      | exact laws_eqPtS.mono _ _ _
      | exact laws_toPtS.mono _ _
      | exact spec_CodeWrite.mono _ _
      | exact LeO.none _
      | refine LeO.ite ?_ ?_
      | refine LeO.bind ?_ (fun _ => ?_)
set_option maxHeartbeats 8000000 in
set_option maxRecDepth 100000 in
theorem laws_FnExactCodeWrite.calls (k : Nat) (A0 : Option Addr) (c0 : Nat) (l0 : List (S44)) (r : Bool) (w : World) (hr0 : Kd.C k44 w A0 l0.length l0) (hc0 : l0.length ≤ c0) (h : laws_FnExactCodeWrite.f k l0 = some r) :
  Calls Tryd.prog 3 #[.slice A0 l0.length c0] w fun e w' => e = .returned (.bool r) ∧ Below w.heap.size w w' := by
 have HR0 := Aside0.mk hr0; have HC0 := Aside0.mk hc0; clear hr0 hc0; have HB := Aside0.mk (Below.refl w.heap.size w); have H : ((laws_szPtS.f l0 1048576).bind fun t101 => (if t101 < 0 then (some true) else ((laws_toPtS.f k l0).bind fun t102 => ((spec_CodeWrite.f k t102).bind fun t105 => ((laws_toPtS.f k l0).bind fun t106 => ((impl_CodeWrite.f k t106).bind fun t109 => (if t109.toList = t105.toList then ((laws_toPtS.f k l0).bind fun t110 => ((laws_eqPtS.f k t106 t110).bind fun t113 => (if t113 = true then (some true) else (some false)))) else (some false)))))))) = some r := h; clear h; replace H := Option.bind_eq_some_iff.mp H; obtain ⟨t101, A20, H⟩ := H; replace H : (if t101 < 0 then (some true) else ((laws_toPtS.f k l0).bind fun t102 => ((spec_CodeWrite.f k t102).bind fun t105 => ((laws_toPtS.f k l0).bind fun t106 => ((impl_CodeWrite.f k t106).bind fun t109 => (if t109.toList = t105.toList then ((laws_toPtS.f k l0).bind fun t110 => ((laws_eqPtS.f k t106 t110).bind fun t113 => (if t113 = true then (some true) else (some false)))) else (some false))))))) = some r := H; have A2 := Aside0.mk A20; clear A20
 by_cases c3 : t101 < 0
 ·rw [if_pos c3] at H
  have c3b0 : decide (t101 < 0) = true := decide_eq_true c3; clear c3; obtain rfl := Option.some.inj H; go_enter Tryd.func3, Tryd.ntmps3; go_wp2_with (first | ((with_reducible refine gate_callee (f := 10) rfl ?_); refine goesL_ (some 9) rfl rfl Tryd.func10 (by kernel_rfl) rfl #[.slice A0 l0.length c0, .int .i64 1048576] rfl (by (try simp only [List.map_toArray, List.map_cons, List.map_nil]); first | done | rfl | (simp only [List.length_drop, List.length_take]; rfl)) ?_; (with_reducible refine (laws_szPtS.calls _ _ l0 1048576 t101 _ ?side1 ?side2 A2.out).mono ?_); (case side1 => repeat (first | exact HR0.out | (with_reducible refine Kd.C_alloc ?_ _) | (with_reducible refine Kd.C_drewN ?_ _) | (with_reducible refine Kd.C_drew ?_))); (case side2 => exact HC0.out); rintro e w' ⟨rfl, ⟨nd, rfl⟩⟩; refine ⟨_, rfl, ?_⟩)); go_ret
  exact ⟨by first | rfl | (simp [errW_none, errW_some] <;> rfl) | (simp [*, errW_none, errW_some] <;> rfl), by repeat (first | (with_reducible first | exact HB.out | apply below_alloc | apply pw_below_drewN | apply below_drew1) | exact HB.out)⟩
 ·rw [if_neg c3] at H
  have c3b0 : decide (t101 < 0) = false := decide_eq_false c3; clear c3; replace H := Option.bind_eq_some_iff.mp H; obtain ⟨t102, A40, H⟩ := H; replace H : ((spec_CodeWrite.f k t102).bind fun t105 => ((laws_toPtS.f k l0).bind fun t106 => ((impl_CodeWrite.f k t106).bind fun t109 => (if t109.toList = t105.toList then ((laws_toPtS.f k l0).bind fun t110 => ((laws_eqPtS.f k t106 t110).bind fun t113 => (if t113 = true then (some true) else (some false)))) else (some false))))) = some r := H; have A4 := Aside0.mk A40; clear A40; replace H := Option.bind_eq_some_iff.mp H; obtain ⟨t105, A50, H⟩ := H; replace H : ((laws_toPtS.f k l0).bind fun t106 => ((impl_CodeWrite.f k t106).bind fun t109 => (if t109.toList = t105.toList then ((laws_toPtS.f k l0).bind fun t110 => ((laws_eqPtS.f k t106 t110).bind fun t113 => (if t113 = true then (some true) else (some false)))) else (some false)))) = some r := H; have A5 := Aside0.mk A50; clear A50; replace H := Option.bind_eq_some_iff.mp H; obtain ⟨t106, A60, H⟩ := H; replace H : ((impl_CodeWrite.f k t106).bind fun t109 => (if t109.toList = t105.toList then ((laws_toPtS.f k l0).bind fun t110 => ((laws_eqPtS.f k t106 t110).bind fun t113 => (if t113 = true then (some true) else (some false)))) else (some false))) = some r := H; have A6 := Aside0.mk A60; clear A60; replace H := Option.bind_eq_some_iff.mp H; obtain ⟨t109, A70, H⟩ := H; replace H : (if t109.toList = t105.toList then ((laws_toPtS.f k l0).bind fun t110 => ((laws_eqPtS.f k t106 t110).bind fun t113 => (if t113 = true then (some true) else (some false)))) else (some false)) = some r := H; have A7 := Aside0.mk A70; clear A70
  by_cases c8 : t109.toList = t105.toList
  ·rw [if_pos c8] at H
   have c8b0 : (t109.toList == t105.toList) = true := beq_iff_eq.mpr c8; have c8b1 : (t109.toList != t105.toList) = false := bne_eq_false_iff_eq.mpr c8; clear c8; replace H := Option.bind_eq_some_iff.mp H; obtain ⟨t110, A90, H⟩ := H; replace H : ((laws_eqPtS.f k t106 t110).bind fun t113 => (if t113 = true then (some true) else (some false))) = some r := H; have A9 := Aside0.mk A90; clear A90; replace H := Option.bind_eq_some_iff.mp H; obtain ⟨t113, A100, H⟩ := H; replace H : (if t113 = true then (some true) else (some false)) = some r := H; have A10 := Aside0.mk A100; clear A100
   by_cases c11 : t113 = true
   ·subst c11
    have H1 : (some true) = some r := by rw [if_pos rfl] at H; exact H
    clear H; have H := H1; clear H1; obtain rfl := Option.some.inj H; go_enter Tryd.func3, Tryd.ntmps3; go_wp2_with (first | ((with_reducible refine gate_callee (f := 10) rfl ?_); refine goesL_ (some 9) rfl rfl Tryd.func10 (by kernel_rfl) rfl #[.slice A0 l0.length c0, .int .i64 1048576] rfl (by (try simp only [List.map_toArray, List.map_cons, List.map_nil]); first | done | rfl | (simp only [List.length_drop, List.length_take]; rfl)) ?_; (with_reducible refine (laws_szPtS.calls _ _ l0 1048576 t101 _ ?side1 ?side2 A2.out).mono ?_); (case side1 => repeat (first | exact HR0.out | (with_reducible refine Kd.C_alloc ?_ _) | (with_reducible refine Kd.C_drewN ?_ _) | (with_reducible refine Kd.C_drew ?_))); (case side2 => exact HC0.out); rintro e w' ⟨rfl, ⟨nd, rfl⟩⟩; refine ⟨_, rfl, ?_⟩) | ((with_reducible refine gate_callee (f := 12) rfl ?_); refine goesL_ (some 13) rfl rfl Tryd.func12 (by kernel_rfl) rfl #[.slice A0 l0.length c0] rfl (by (try simp only [List.map_toArray, List.map_cons, List.map_nil]); first | done | rfl | (simp only [List.length_drop, List.length_take]; rfl)) ?_; (with_reducible refine (laws_toPtS.calls k _ _ l0 t102 _ ?side1 ?side2 A4.out).mono ?_); (case side1 => repeat (first | exact HR0.out | (with_reducible refine Kd.C_alloc ?_ _) | (with_reducible refine Kd.C_drewN ?_ _) | (with_reducible refine Kd.C_drew ?_))); (case side2 => exact HC0.out); rintro e w12 ⟨v103, rfl, ho0, hb⟩; refine ⟨_, rfl, ?_⟩; have n0_ := Aside0.mk (Kd.R_lower ho0 (below_size (by repeat (first | (with_reducible first | exact HB.out | apply below_alloc | apply pw_below_drewN | apply below_drew1) | exact HB.out)))); have n1_ := Aside0.mk (below_step (by repeat (first | (with_reducible first | exact HB.out | apply below_alloc | apply pw_below_drewN | apply below_drew1) | exact HB.out)) hb); clear HB; have HO104 := n0_; have HB := n1_; clear n0_ n1_; (try clear hb); (try clear hb2); (try clear hk); (try clear hi); (try clear ho0); obtain ⟨Ao13, co13, eo13⟩ := Kd.R_slice HO104.out; subst eo13) | ((with_reducible refine gate_callee (f := 11) rfl ?_); refine goesL_ (some 14) rfl rfl Tryd.func11 (by kernel_rfl) rfl #[.slice Ao13 t102.length co13] rfl (by (try simp only [List.map_toArray, List.map_cons, List.map_nil]); first | done | rfl | (simp only [List.length_drop, List.length_take]; rfl)) ?_; (with_reducible refine (spec_CodeWrite.calls k _ _ t102 t105 _ ?side1 ?side2 A5.out).mono ?_); (case side1 => repeat (first | exact (Kd.R_reads' HO104.out).2.2 | (with_reducible refine Kd.C_alloc ?_ _) | (with_reducible refine Kd.C_drewN ?_ _) | (with_reducible refine Kd.C_drew ?_))); (case side2 => exact (Kd.R_reads' HO104.out).2.1); rintro e w14 ⟨rfl, hb⟩; refine ⟨_, rfl, ?_⟩; have n0_ := Aside0.mk (Kd.R_below (by (with_reducible repeat (first | apply Kd.R_alloc | apply Kd.R_drewN | apply Kd.R_drew)); exact HO104.out) hb); have n1_ := Aside0.mk (below_step (by repeat (first | (with_reducible first | exact HB.out | apply below_alloc | apply pw_below_drewN | apply below_drew1) | exact HB.out)) hb); clear HO104; clear HB; have HO104 := n0_; have HB := n1_; clear n0_ n1_; (try clear hb); (try clear hb2); (try clear hk); (try clear hi)) | ((with_reducible refine gate_callee (f := 12) rfl ?_); refine goesL_ (some 16) rfl rfl Tryd.func12 (by kernel_rfl) rfl #[.slice A0 l0.length c0] rfl (by (try simp only [List.map_toArray, List.map_cons, List.map_nil]); first | done | rfl | (simp only [List.length_drop, List.length_take]; rfl)) ?_; (with_reducible refine (laws_toPtS.calls k _ _ l0 t106 _ ?side1 ?side2 A6.out).mono ?_); (case side1 => repeat (first | exact (Kd.C_below HR0.out HB.out) | (with_reducible refine Kd.C_alloc ?_ _) | (with_reducible refine Kd.C_drewN ?_ _) | (with_reducible refine Kd.C_drew ?_))); (case side2 => exact HC0.out); rintro e w15 ⟨v107, rfl, ho0, hb⟩; refine ⟨_, rfl, ?_⟩; have n0_ := Aside0.mk (Kd.R_elder' (by (with_reducible repeat (first | apply Kd.R_alloc | apply Kd.R_drewN | apply Kd.R_drew)); exact HO104.out) (Kd.R_base ho0) hb); have n1_ := Aside0.mk (Kd.R_lower (Kd.R_new' ho0 (Kd.R_lt (by (with_reducible repeat (first | apply Kd.R_alloc | apply Kd.R_drewN | apply Kd.R_drew)); exact HO104.out))) (below_size (by repeat (first | (with_reducible first | exact HB.out | apply below_alloc | apply pw_below_drewN | apply below_drew1) | exact HB.out)))); have n2_ := Aside0.mk (below_step (by repeat (first | (with_reducible first | exact HB.out | apply below_alloc | apply pw_below_drewN | apply below_drew1) | exact HB.out)) hb); clear HO104; clear HB; have HO104 := n0_; have HO108 := n1_; have HB := n2_; clear n0_ n1_ n2_; (try clear hb); (try clear hb2); (try clear hk); (try clear hi); (try clear ho0); obtain ⟨Ao16, co16, eo16⟩ := Kd.R_slice HO108.out; subst eo16) | ((with_reducible refine gate_callee (f := 13) rfl ?_); refine goesL_ (some 18) rfl rfl Tryd.func13 (by kernel_rfl) rfl #[.slice Ao16 t106.length co16] rfl (by (try simp only [List.map_toArray, List.map_cons, List.map_nil]); first | done | rfl | (simp only [List.length_drop, List.length_take]; rfl)) ?_; (with_reducible refine (impl_CodeWrite.calls k _ _ t106 t109 _ ?side1 ?side2 A7.out).mono ?_); (case side1 => repeat (first | exact (Kd.R_reads' HO108.out).2.2 | (with_reducible refine Kd.C_alloc ?_ _) | (with_reducible refine Kd.C_drewN ?_ _) | (with_reducible refine Kd.C_drew ?_))); (case side2 => exact (Kd.R_reads' HO108.out).2.1); rintro e w17 ⟨rfl, hb⟩; refine ⟨_, rfl, ?_⟩; have n0_ := Aside0.mk (Kd.R_below (by (with_reducible repeat (first | apply Kd.R_alloc | apply Kd.R_drewN | apply Kd.R_drew)); exact HO104.out) hb); have n1_ := Aside0.mk (Kd.R_below (by (with_reducible repeat (first | apply Kd.R_alloc | apply Kd.R_drewN | apply Kd.R_drew)); exact HO108.out) hb); have n2_ := Aside0.mk (below_step (by repeat (first | (with_reducible first | exact HB.out | apply below_alloc | apply pw_below_drewN | apply below_drew1) | exact HB.out)) hb); clear HO104; clear HO108; clear HB; have HO104 := n0_; have HO108 := n1_; have HB := n2_; clear n0_ n1_ n2_; (try clear hb); (try clear hb2); (try clear hk); (try clear hi)) | ((with_reducible refine gate_callee (f := 12) rfl ?_); refine goesL_ (some 24) rfl rfl Tryd.func12 (by kernel_rfl) rfl #[.slice A0 l0.length c0] rfl (by (try simp only [List.map_toArray, List.map_cons, List.map_nil]); first | done | rfl | (simp only [List.length_drop, List.length_take]; rfl)) ?_; (with_reducible refine (laws_toPtS.calls k _ _ l0 t110 _ ?side1 ?side2 A9.out).mono ?_); (case side1 => repeat (first | exact (Kd.C_below HR0.out HB.out) | (with_reducible refine Kd.C_alloc ?_ _) | (with_reducible refine Kd.C_drewN ?_ _) | (with_reducible refine Kd.C_drew ?_))); (case side2 => exact HC0.out); rintro e w18 ⟨v111, rfl, ho0, hb⟩; refine ⟨_, rfl, ?_⟩; have n0_ := Aside0.mk (Kd.R_elder' (by (with_reducible repeat (first | apply Kd.R_alloc | apply Kd.R_drewN | apply Kd.R_drew)); exact HO104.out) (Kd.R_base ho0) hb); have n1_ := Aside0.mk (Kd.R_elder' (by (with_reducible repeat (first | apply Kd.R_alloc | apply Kd.R_drewN | apply Kd.R_drew)); exact HO108.out) (Kd.R_base ho0) hb); have n2_ := Aside0.mk (Kd.R_lower (Kd.R_new' (Kd.R_new' ho0 (Kd.R_lt (by (with_reducible repeat (first | apply Kd.R_alloc | apply Kd.R_drewN | apply Kd.R_drew)); exact HO104.out))) (Kd.R_lt (by (with_reducible repeat (first | apply Kd.R_alloc | apply Kd.R_drewN | apply Kd.R_drew)); exact HO108.out))) (below_size (by repeat (first | (with_reducible first | exact HB.out | apply below_alloc | apply pw_below_drewN | apply below_drew1) | exact HB.out)))); have n3_ := Aside0.mk (below_step (by repeat (first | (with_reducible first | exact HB.out | apply below_alloc | apply pw_below_drewN | apply below_drew1) | exact HB.out)) hb); clear HO104; clear HO108; clear HB; have HO104 := n0_; have HO108 := n1_; have HO112 := n2_; have HB := n3_; clear n0_ n1_ n2_ n3_; (try clear hb); (try clear hb2); (try clear hk); (try clear hi); (try clear ho0); obtain ⟨Ao19, co19, eo19⟩ := Kd.R_slice HO112.out; subst eo19) | ((with_reducible refine gate_callee (f := 14) rfl ?_); refine goesL_ (some 25) rfl rfl Tryd.func14 (by kernel_rfl) rfl #[.slice Ao16 t106.length co16, .slice Ao19 t110.length co19] rfl (by (try simp only [List.map_toArray, List.map_cons, List.map_nil]); first | done | rfl | (simp only [List.length_drop, List.length_take]; rfl)) ?_; (with_reducible refine (laws_eqPtS.calls k _ _ t106 _ _ t110 true _ ?side1 ?side2 ?side3 ?side4 A10.out).mono ?_); (case side1 => repeat (first | exact (Kd.R_reads' HO108.out).2.2 | (with_reducible refine Kd.C_alloc ?_ _) | (with_reducible refine Kd.C_drewN ?_ _) | (with_reducible refine Kd.C_drew ?_))); (case side2 => exact (Kd.R_reads' HO108.out).2.1); (case side3 => repeat (first | exact (Kd.R_reads' HO112.out).2.2 | (with_reducible refine Kd.C_alloc ?_ _) | (with_reducible refine Kd.C_drewN ?_ _) | (with_reducible refine Kd.C_drew ?_))); (case side4 => exact (Kd.R_reads' HO112.out).2.1); rintro e w20 ⟨rfl, hb⟩; refine ⟨_, rfl, ?_⟩; have n0_ := Aside0.mk (Kd.R_below (by (with_reducible repeat (first | apply Kd.R_alloc | apply Kd.R_drewN | apply Kd.R_drew)); exact HO104.out) hb); have n1_ := Aside0.mk (Kd.R_below (by (with_reducible repeat (first | apply Kd.R_alloc | apply Kd.R_drewN | apply Kd.R_drew)); exact HO108.out) hb); have n2_ := Aside0.mk (Kd.R_below (by (with_reducible repeat (first | apply Kd.R_alloc | apply Kd.R_drewN | apply Kd.R_drew)); exact HO112.out) hb); have n3_ := Aside0.mk (below_step (by repeat (first | (with_reducible first | exact HB.out | apply below_alloc | apply pw_below_drewN | apply below_drew1) | exact HB.out)) hb); clear HO104; clear HO108; clear HO112; clear HB; have HO104 := n0_; have HO108 := n1_; have HO112 := n2_; have HB := n3_; clear n0_ n1_ n2_ n3_; (try clear hb); (try clear hb2); (try clear hk); (try clear hi)))
    go_ret
    exact ⟨by first | rfl | (simp [errW_none, errW_some] <;> rfl) | (simp [*, errW_none, errW_some] <;> rfl), by repeat (first | (with_reducible first | exact HB.out | apply below_alloc | apply pw_below_drewN | apply below_drew1) | exact HB.out)⟩
   ·replace c11 := Bool.eq_false_iff.mpr c11
    subst c11
    have H1 : (some false) = some r := by rw [if_neg (show ¬ (false = true) by decide)] at H; exact H
    clear H; have H := H1; clear H1; obtain rfl := Option.some.inj H; go_enter Tryd.func3, Tryd.ntmps3; go_wp2_with (first | ((with_reducible refine gate_callee (f := 10) rfl ?_); refine goesL_ (some 9) rfl rfl Tryd.func10 (by kernel_rfl) rfl #[.slice A0 l0.length c0, .int .i64 1048576] rfl (by (try simp only [List.map_toArray, List.map_cons, List.map_nil]); first | done | rfl | (simp only [List.length_drop, List.length_take]; rfl)) ?_; (with_reducible refine (laws_szPtS.calls _ _ l0 1048576 t101 _ ?side1 ?side2 A2.out).mono ?_); (case side1 => repeat (first | exact HR0.out | (with_reducible refine Kd.C_alloc ?_ _) | (with_reducible refine Kd.C_drewN ?_ _) | (with_reducible refine Kd.C_drew ?_))); (case side2 => exact HC0.out); rintro e w' ⟨rfl, ⟨nd, rfl⟩⟩; refine ⟨_, rfl, ?_⟩) | ((with_reducible refine gate_callee (f := 12) rfl ?_); refine goesL_ (some 13) rfl rfl Tryd.func12 (by kernel_rfl) rfl #[.slice A0 l0.length c0] rfl (by (try simp only [List.map_toArray, List.map_cons, List.map_nil]); first | done | rfl | (simp only [List.length_drop, List.length_take]; rfl)) ?_; (with_reducible refine (laws_toPtS.calls k _ _ l0 t102 _ ?side1 ?side2 A4.out).mono ?_); (case side1 => repeat (first | exact HR0.out | (with_reducible refine Kd.C_alloc ?_ _) | (with_reducible refine Kd.C_drewN ?_ _) | (with_reducible refine Kd.C_drew ?_))); (case side2 => exact HC0.out); rintro e w21 ⟨v103, rfl, ho0, hb⟩; refine ⟨_, rfl, ?_⟩; have n0_ := Aside0.mk (Kd.R_lower ho0 (below_size (by repeat (first | (with_reducible first | exact HB.out | apply below_alloc | apply pw_below_drewN | apply below_drew1) | exact HB.out)))); have n1_ := Aside0.mk (below_step (by repeat (first | (with_reducible first | exact HB.out | apply below_alloc | apply pw_below_drewN | apply below_drew1) | exact HB.out)) hb); clear HB; have HO104 := n0_; have HB := n1_; clear n0_ n1_; (try clear hb); (try clear hb2); (try clear hk); (try clear hi); (try clear ho0); obtain ⟨Ao22, co22, eo22⟩ := Kd.R_slice HO104.out; subst eo22) | ((with_reducible refine gate_callee (f := 11) rfl ?_); refine goesL_ (some 14) rfl rfl Tryd.func11 (by kernel_rfl) rfl #[.slice Ao22 t102.length co22] rfl (by (try simp only [List.map_toArray, List.map_cons, List.map_nil]); first | done | rfl | (simp only [List.length_drop, List.length_take]; rfl)) ?_; (with_reducible refine (spec_CodeWrite.calls k _ _ t102 t105 _ ?side1 ?side2 A5.out).mono ?_); (case side1 => repeat (first | exact (Kd.R_reads' HO104.out).2.2 | (with_reducible refine Kd.C_alloc ?_ _) | (with_reducible refine Kd.C_drewN ?_ _) | (with_reducible refine Kd.C_drew ?_))); (case side2 => exact (Kd.R_reads' HO104.out).2.1); rintro e w23 ⟨rfl, hb⟩; refine ⟨_, rfl, ?_⟩; have n0_ := Aside0.mk (Kd.R_below (by (with_reducible repeat (first | apply Kd.R_alloc | apply Kd.R_drewN | apply Kd.R_drew)); exact HO104.out) hb); have n1_ := Aside0.mk (below_step (by repeat (first | (with_reducible first | exact HB.out | apply below_alloc | apply pw_below_drewN | apply below_drew1) | exact HB.out)) hb); clear HO104; clear HB; have HO104 := n0_; have HB := n1_; clear n0_ n1_; (try clear hb); (try clear hb2); (try clear hk); (try clear hi)) | ((with_reducible refine gate_callee (f := 12) rfl ?_); refine goesL_ (some 16) rfl rfl Tryd.func12 (by kernel_rfl) rfl #[.slice A0 l0.length c0] rfl (by (try simp only [List.map_toArray, List.map_cons, List.map_nil]); first | done | rfl | (simp only [List.length_drop, List.length_take]; rfl)) ?_; (with_reducible refine (laws_toPtS.calls k _ _ l0 t106 _ ?side1 ?side2 A6.out).mono ?_); (case side1 => repeat (first | exact (Kd.C_below HR0.out HB.out) | (with_reducible refine Kd.C_alloc ?_ _) | (with_reducible refine Kd.C_drewN ?_ _) | (with_reducible refine Kd.C_drew ?_))); (case side2 => exact HC0.out); rintro e w24 ⟨v107, rfl, ho0, hb⟩; refine ⟨_, rfl, ?_⟩; have n0_ := Aside0.mk (Kd.R_elder' (by (with_reducible repeat (first | apply Kd.R_alloc | apply Kd.R_drewN | apply Kd.R_drew)); exact HO104.out) (Kd.R_base ho0) hb); have n1_ := Aside0.mk (Kd.R_lower (Kd.R_new' ho0 (Kd.R_lt (by (with_reducible repeat (first | apply Kd.R_alloc | apply Kd.R_drewN | apply Kd.R_drew)); exact HO104.out))) (below_size (by repeat (first | (with_reducible first | exact HB.out | apply below_alloc | apply pw_below_drewN | apply below_drew1) | exact HB.out)))); have n2_ := Aside0.mk (below_step (by repeat (first | (with_reducible first | exact HB.out | apply below_alloc | apply pw_below_drewN | apply below_drew1) | exact HB.out)) hb); clear HO104; clear HB; have HO104 := n0_; have HO108 := n1_; have HB := n2_; clear n0_ n1_ n2_; (try clear hb); (try clear hb2); (try clear hk); (try clear hi); (try clear ho0); obtain ⟨Ao25, co25, eo25⟩ := Kd.R_slice HO108.out; subst eo25) | ((with_reducible refine gate_callee (f := 13) rfl ?_); refine goesL_ (some 18) rfl rfl Tryd.func13 (by kernel_rfl) rfl #[.slice Ao25 t106.length co25] rfl (by (try simp only [List.map_toArray, List.map_cons, List.map_nil]); first | done | rfl | (simp only [List.length_drop, List.length_take]; rfl)) ?_; (with_reducible refine (impl_CodeWrite.calls k _ _ t106 t109 _ ?side1 ?side2 A7.out).mono ?_); (case side1 => repeat (first | exact (Kd.R_reads' HO108.out).2.2 | (with_reducible refine Kd.C_alloc ?_ _) | (with_reducible refine Kd.C_drewN ?_ _) | (with_reducible refine Kd.C_drew ?_))); (case side2 => exact (Kd.R_reads' HO108.out).2.1); rintro e w26 ⟨rfl, hb⟩; refine ⟨_, rfl, ?_⟩; have n0_ := Aside0.mk (Kd.R_below (by (with_reducible repeat (first | apply Kd.R_alloc | apply Kd.R_drewN | apply Kd.R_drew)); exact HO104.out) hb); have n1_ := Aside0.mk (Kd.R_below (by (with_reducible repeat (first | apply Kd.R_alloc | apply Kd.R_drewN | apply Kd.R_drew)); exact HO108.out) hb); have n2_ := Aside0.mk (below_step (by repeat (first | (with_reducible first | exact HB.out | apply below_alloc | apply pw_below_drewN | apply below_drew1) | exact HB.out)) hb); clear HO104; clear HO108; clear HB; have HO104 := n0_; have HO108 := n1_; have HB := n2_; clear n0_ n1_ n2_; (try clear hb); (try clear hb2); (try clear hk); (try clear hi)) | ((with_reducible refine gate_callee (f := 12) rfl ?_); refine goesL_ (some 24) rfl rfl Tryd.func12 (by kernel_rfl) rfl #[.slice A0 l0.length c0] rfl (by (try simp only [List.map_toArray, List.map_cons, List.map_nil]); first | done | rfl | (simp only [List.length_drop, List.length_take]; rfl)) ?_; (with_reducible refine (laws_toPtS.calls k _ _ l0 t110 _ ?side1 ?side2 A9.out).mono ?_); (case side1 => repeat (first | exact (Kd.C_below HR0.out HB.out) | (with_reducible refine Kd.C_alloc ?_ _) | (with_reducible refine Kd.C_drewN ?_ _) | (with_reducible refine Kd.C_drew ?_))); (case side2 => exact HC0.out); rintro e w27 ⟨v111, rfl, ho0, hb⟩; refine ⟨_, rfl, ?_⟩; have n0_ := Aside0.mk (Kd.R_elder' (by (with_reducible repeat (first | apply Kd.R_alloc | apply Kd.R_drewN | apply Kd.R_drew)); exact HO104.out) (Kd.R_base ho0) hb); have n1_ := Aside0.mk (Kd.R_elder' (by (with_reducible repeat (first | apply Kd.R_alloc | apply Kd.R_drewN | apply Kd.R_drew)); exact HO108.out) (Kd.R_base ho0) hb); have n2_ := Aside0.mk (Kd.R_lower (Kd.R_new' (Kd.R_new' ho0 (Kd.R_lt (by (with_reducible repeat (first | apply Kd.R_alloc | apply Kd.R_drewN | apply Kd.R_drew)); exact HO104.out))) (Kd.R_lt (by (with_reducible repeat (first | apply Kd.R_alloc | apply Kd.R_drewN | apply Kd.R_drew)); exact HO108.out))) (below_size (by repeat (first | (with_reducible first | exact HB.out | apply below_alloc | apply pw_below_drewN | apply below_drew1) | exact HB.out)))); have n3_ := Aside0.mk (below_step (by repeat (first | (with_reducible first | exact HB.out | apply below_alloc | apply pw_below_drewN | apply below_drew1) | exact HB.out)) hb); clear HO104; clear HO108; clear HB; have HO104 := n0_; have HO108 := n1_; have HO112 := n2_; have HB := n3_; clear n0_ n1_ n2_ n3_; (try clear hb); (try clear hb2); (try clear hk); (try clear hi); (try clear ho0); obtain ⟨Ao28, co28, eo28⟩ := Kd.R_slice HO112.out; subst eo28) | ((with_reducible refine gate_callee (f := 14) rfl ?_); refine goesL_ (some 25) rfl rfl Tryd.func14 (by kernel_rfl) rfl #[.slice Ao25 t106.length co25, .slice Ao28 t110.length co28] rfl (by (try simp only [List.map_toArray, List.map_cons, List.map_nil]); first | done | rfl | (simp only [List.length_drop, List.length_take]; rfl)) ?_; (with_reducible refine (laws_eqPtS.calls k _ _ t106 _ _ t110 false _ ?side1 ?side2 ?side3 ?side4 A10.out).mono ?_); (case side1 => repeat (first | exact (Kd.R_reads' HO108.out).2.2 | (with_reducible refine Kd.C_alloc ?_ _) | (with_reducible refine Kd.C_drewN ?_ _) | (with_reducible refine Kd.C_drew ?_))); (case side2 => exact (Kd.R_reads' HO108.out).2.1); (case side3 => repeat (first | exact (Kd.R_reads' HO112.out).2.2 | (with_reducible refine Kd.C_alloc ?_ _) | (with_reducible refine Kd.C_drewN ?_ _) | (with_reducible refine Kd.C_drew ?_))); (case side4 => exact (Kd.R_reads' HO112.out).2.1); rintro e w29 ⟨rfl, hb⟩; refine ⟨_, rfl, ?_⟩; have n0_ := Aside0.mk (Kd.R_below (by (with_reducible repeat (first | apply Kd.R_alloc | apply Kd.R_drewN | apply Kd.R_drew)); exact HO104.out) hb); have n1_ := Aside0.mk (Kd.R_below (by (with_reducible repeat (first | apply Kd.R_alloc | apply Kd.R_drewN | apply Kd.R_drew)); exact HO108.out) hb); have n2_ := Aside0.mk (Kd.R_below (by (with_reducible repeat (first | apply Kd.R_alloc | apply Kd.R_drewN | apply Kd.R_drew)); exact HO112.out) hb); have n3_ := Aside0.mk (below_step (by repeat (first | (with_reducible first | exact HB.out | apply below_alloc | apply pw_below_drewN | apply below_drew1) | exact HB.out)) hb); clear HO104; clear HO108; clear HO112; clear HB; have HO104 := n0_; have HO108 := n1_; have HO112 := n2_; have HB := n3_; clear n0_ n1_ n2_ n3_; (try clear hb); (try clear hb2); (try clear hk); (try clear hi)))
    go_ret
    exact ⟨by first | rfl | (simp [errW_none, errW_some] <;> rfl) | (simp [*, errW_none, errW_some] <;> rfl), by repeat (first | (with_reducible first | exact HB.out | apply below_alloc | apply pw_below_drewN | apply below_drew1) | exact HB.out)⟩
  ·rw [if_neg c8] at H
   have c8b0 : (t109.toList == t105.toList) = false := beq_eq_false_iff_ne.mpr c8; have c8b1 : (t109.toList != t105.toList) = true := bne_iff_ne.mpr c8; obtain rfl := Option.some.inj H; go_enter Tryd.func3, Tryd.ntmps3; go_wp2_with (first | ((with_reducible refine gate_callee (f := 10) rfl ?_); refine goesL_ (some 9) rfl rfl Tryd.func10 (by kernel_rfl) rfl #[.slice A0 l0.length c0, .int .i64 1048576] rfl (by (try simp only [List.map_toArray, List.map_cons, List.map_nil]); first | done | rfl | (simp only [List.length_drop, List.length_take]; rfl)) ?_; (with_reducible refine (laws_szPtS.calls _ _ l0 1048576 t101 _ ?side1 ?side2 A2.out).mono ?_); (case side1 => repeat (first | exact HR0.out | (with_reducible refine Kd.C_alloc ?_ _) | (with_reducible refine Kd.C_drewN ?_ _) | (with_reducible refine Kd.C_drew ?_))); (case side2 => exact HC0.out); rintro e w' ⟨rfl, ⟨nd, rfl⟩⟩; refine ⟨_, rfl, ?_⟩) | ((with_reducible refine gate_callee (f := 12) rfl ?_); refine goesL_ (some 13) rfl rfl Tryd.func12 (by kernel_rfl) rfl #[.slice A0 l0.length c0] rfl (by (try simp only [List.map_toArray, List.map_cons, List.map_nil]); first | done | rfl | (simp only [List.length_drop, List.length_take]; rfl)) ?_; (with_reducible refine (laws_toPtS.calls k _ _ l0 t102 _ ?side1 ?side2 A4.out).mono ?_); (case side1 => repeat (first | exact HR0.out | (with_reducible refine Kd.C_alloc ?_ _) | (with_reducible refine Kd.C_drewN ?_ _) | (with_reducible refine Kd.C_drew ?_))); (case side2 => exact HC0.out); rintro e w30 ⟨v103, rfl, ho0, hb⟩; refine ⟨_, rfl, ?_⟩; have n0_ := Aside0.mk (Kd.R_lower ho0 (below_size (by repeat (first | (with_reducible first | exact HB.out | apply below_alloc | apply pw_below_drewN | apply below_drew1) | exact HB.out)))); have n1_ := Aside0.mk (below_step (by repeat (first | (with_reducible first | exact HB.out | apply below_alloc | apply pw_below_drewN | apply below_drew1) | exact HB.out)) hb); clear HB; have HO104 := n0_; have HB := n1_; clear n0_ n1_; (try clear hb); (try clear hb2); (try clear hk); (try clear hi); (try clear ho0); obtain ⟨Ao31, co31, eo31⟩ := Kd.R_slice HO104.out; subst eo31) | ((with_reducible refine gate_callee (f := 11) rfl ?_); refine goesL_ (some 14) rfl rfl Tryd.func11 (by kernel_rfl) rfl #[.slice Ao31 t102.length co31] rfl (by (try simp only [List.map_toArray, List.map_cons, List.map_nil]); first | done | rfl | (simp only [List.length_drop, List.length_take]; rfl)) ?_; (with_reducible refine (spec_CodeWrite.calls k _ _ t102 t105 _ ?side1 ?side2 A5.out).mono ?_); (case side1 => repeat (first | exact (Kd.R_reads' HO104.out).2.2 | (with_reducible refine Kd.C_alloc ?_ _) | (with_reducible refine Kd.C_drewN ?_ _) | (with_reducible refine Kd.C_drew ?_))); (case side2 => exact (Kd.R_reads' HO104.out).2.1); rintro e w32 ⟨rfl, hb⟩; refine ⟨_, rfl, ?_⟩; have n0_ := Aside0.mk (Kd.R_below (by (with_reducible repeat (first | apply Kd.R_alloc | apply Kd.R_drewN | apply Kd.R_drew)); exact HO104.out) hb); have n1_ := Aside0.mk (below_step (by repeat (first | (with_reducible first | exact HB.out | apply below_alloc | apply pw_below_drewN | apply below_drew1) | exact HB.out)) hb); clear HO104; clear HB; have HO104 := n0_; have HB := n1_; clear n0_ n1_; (try clear hb); (try clear hb2); (try clear hk); (try clear hi)) | ((with_reducible refine gate_callee (f := 12) rfl ?_); refine goesL_ (some 16) rfl rfl Tryd.func12 (by kernel_rfl) rfl #[.slice A0 l0.length c0] rfl (by (try simp only [List.map_toArray, List.map_cons, List.map_nil]); first | done | rfl | (simp only [List.length_drop, List.length_take]; rfl)) ?_; (with_reducible refine (laws_toPtS.calls k _ _ l0 t106 _ ?side1 ?side2 A6.out).mono ?_); (case side1 => repeat (first | exact (Kd.C_below HR0.out HB.out) | (with_reducible refine Kd.C_alloc ?_ _) | (with_reducible refine Kd.C_drewN ?_ _) | (with_reducible refine Kd.C_drew ?_))); (case side2 => exact HC0.out); rintro e w33 ⟨v107, rfl, ho0, hb⟩; refine ⟨_, rfl, ?_⟩; have n0_ := Aside0.mk (Kd.R_elder' (by (with_reducible repeat (first | apply Kd.R_alloc | apply Kd.R_drewN | apply Kd.R_drew)); exact HO104.out) (Kd.R_base ho0) hb); have n1_ := Aside0.mk (Kd.R_lower (Kd.R_new' ho0 (Kd.R_lt (by (with_reducible repeat (first | apply Kd.R_alloc | apply Kd.R_drewN | apply Kd.R_drew)); exact HO104.out))) (below_size (by repeat (first | (with_reducible first | exact HB.out | apply below_alloc | apply pw_below_drewN | apply below_drew1) | exact HB.out)))); have n2_ := Aside0.mk (below_step (by repeat (first | (with_reducible first | exact HB.out | apply below_alloc | apply pw_below_drewN | apply below_drew1) | exact HB.out)) hb); clear HO104; clear HB; have HO104 := n0_; have HO108 := n1_; have HB := n2_; clear n0_ n1_ n2_; (try clear hb); (try clear hb2); (try clear hk); (try clear hi); (try clear ho0); obtain ⟨Ao34, co34, eo34⟩ := Kd.R_slice HO108.out; subst eo34) | ((with_reducible refine gate_callee (f := 13) rfl ?_); refine goesL_ (some 18) rfl rfl Tryd.func13 (by kernel_rfl) rfl #[.slice Ao34 t106.length co34] rfl (by (try simp only [List.map_toArray, List.map_cons, List.map_nil]); first | done | rfl | (simp only [List.length_drop, List.length_take]; rfl)) ?_; (with_reducible refine (impl_CodeWrite.calls k _ _ t106 t109 _ ?side1 ?side2 A7.out).mono ?_); (case side1 => repeat (first | exact (Kd.R_reads' HO108.out).2.2 | (with_reducible refine Kd.C_alloc ?_ _) | (with_reducible refine Kd.C_drewN ?_ _) | (with_reducible refine Kd.C_drew ?_))); (case side2 => exact (Kd.R_reads' HO108.out).2.1); rintro e w35 ⟨rfl, hb⟩; refine ⟨_, rfl, ?_⟩; have n0_ := Aside0.mk (Kd.R_below (by (with_reducible repeat (first | apply Kd.R_alloc | apply Kd.R_drewN | apply Kd.R_drew)); exact HO104.out) hb); have n1_ := Aside0.mk (Kd.R_below (by (with_reducible repeat (first | apply Kd.R_alloc | apply Kd.R_drewN | apply Kd.R_drew)); exact HO108.out) hb); have n2_ := Aside0.mk (below_step (by repeat (first | (with_reducible first | exact HB.out | apply below_alloc | apply pw_below_drewN | apply below_drew1) | exact HB.out)) hb); clear HO104; clear HO108; clear HB; have HO104 := n0_; have HO108 := n1_; have HB := n2_; clear n0_ n1_ n2_; (try clear hb); (try clear hb2); (try clear hk); (try clear hi)))
   go_ret
   exact ⟨by first | rfl | (simp [errW_none, errW_some] <;> rfl) | (simp [*, errW_none, errW_some] <;> rfl), by repeat (first | (with_reducible first | exact HB.out | apply below_alloc | apply pw_below_drewN | apply below_drew1) | exact HB.out)⟩

end Go.Proofs.YtdacpdhpifocbaaDoor.P

namespace Go.Proofs.YtdacpdhpifocbaaDoor.Q
open Go.RowKit Go.Proofs.YtdacpdhpifocbaaDoor.P Go.Proofs.YtdacpdhpifocbaaDoorW.PrintWords Go.Proofs.YtdacpdhpifocbaaDoorW.PrintLast
set_option linter.unusedVariables false
theorem exactCodeWrite (l : List LP) (hl : l.length * 16 ≤ 140737488351232) : ∃ k, laws_FnExactCodeWrite.f k l = some true := by
  refine ⟨l.length + 10, ?_⟩
  unfold laws_FnExactCodeWrite.f
  rcases szPtS_f l (by omega) with ⟨hgt, h⟩ | ⟨hle, r, h, hr⟩
  · rw [h, Option.bind_some, if_pos (by omega)]
  · have hm : (l.map conv).length = l.length := List.length_map ..
    rw [h, Option.bind_some, if_neg hr, toPtS_f l (by omega) _ (by omega), Option.bind_some, specCodeWrite _ (by omega) _ (by omega), Option.bind_some, Option.bind_some, implCodeWrite _ (by omega) _ (by omega), Option.bind_some, if_pos rfl, Option.bind_some, eqPtS_self _ (by omega) _ (by omega), Option.bind_some, if_pos rfl]
end Go.Proofs.YtdacpdhpifocbaaDoor.Q

namespace Go.Proofs.YtdacpdhpifocbaaDoor.Open
open Go.ChangeShapes Go.WideShapes Go.Deep Go.RowKit Go.Proofs.YtdacpdhpifocbaaDoor.P Go.Proofs.YtdacpdhpifocbaaDoorW.PrintWords Go.Proofs.YtdacpdhpifocbaaDoorW.PrintLast
section
variable {H : Type} {enc : TypeId × Value → H} {P : Program} {w : World} {base : Nat} {spare : Nat → Bool} {held : Bool}
theorem open_slice_fields {t e : TypeId} {fs : Array Field} {fuel : Nat} {cs : List Value} {x : DataW H × List MemPlace} (ht : P.underlying t = some (.slice e)) (he : P.underlying e = some (.struct fs))
    (hone : oneCellFields P fs = true) (hC : P.cellsOf e = fs.size) (h : DataW.trod enc P w base spare held fuel t cs = some x) :
    (cs = [.slice none 0 0] ∧ x = (.nil, [])) ∨
    ∃ (a : Addr) (len cap m : Nat) (D : Nat → DataW H) (Pl : Nat → List MemPlace), cs = [.slice (some a) len cap] ∧ base ≤ a.block ∧ len ≤ cap ∧ cap ≤ maxLen ∧ m = (if spare a.block then cap else len) ∧
      x = (.slice ((List.range len).map D) ((List.range (m - len)).map fun j => D (len + j)), MemPlace.row a (m * fs.size) ++ (List.range m).flatMap Pl) ∧
      ∀ i, i < m → ∃ (ys : List (DataW H × List MemPlace)) (n : Nat), D i = .agg (ys.map (·.1)) ∧ Pl i = ys.flatMap (·.2) ∧ ys.length = fs.size ∧
        ∀ (j : Nat) (f : Field), fs[j]? = some f → ∃ (v : Value) (y : DataW H × List MemPlace), w.cell? (a.add (i * fs.size + j)) = some v ∧ ys[j]? = some y ∧ DataW.trod enc P w base spare held n f.type [v] = some y := by
  rcases open_slice ht h with h0 | ⟨a, len, cap, m, n, D, Pl, hcs, hb, hl, hm, hmm, hx, hi⟩
  · exact .inl h0
  · refine .inr ⟨a, len, cap, m, D, Pl, hcs, hb, hl, hm, hmm, by rw [hC] at hx; exact hx, fun i him => ?_⟩
    obtain ⟨cs', hc, ht'⟩ := hi i him
    rw [hC] at hc
    obtain ⟨ys, n', hn', hy, hlen, hyl, hf⟩ := DataW.trod_struct he ht'
    obtain ⟨_, hcl, hat⟩ := World.cells?_some hc
    simp only [Prod.mk.injEq] at hy
    refine ⟨ys, n', hy.1, hy.2, hyl, fun j f hj => ?_⟩
    obtain ⟨ho, hk⟩ := hone_of hone j f hj
    have hjl : j < fs.size := (Array.getElem?_eq_some_iff.1 hj).1
    have hcell := hat j hjl
    have hv : cs'[j]? = some (cs'[j]'(by omega)) := List.getElem?_eq_getElem (by omega)
    have h1 := hf j f hj
    rw [ho, hk] at h1
    have hone' : (cs'.drop j).take 1 = [cs'[j]'(by omega)] := by
      rw [List.drop_eq_getElem_cons (by omega)]
      rfl
    rw [hone'] at h1
    have hys : ys[j]? = some (ys[j]'(by omega)) := List.getElem?_eq_getElem (by omega)
    refine ⟨_, _, ?_, hys, h1.trans hys⟩
    rw [← Go.Deep.add_add, hcell, hv]
end
/-- A slice of points, as the print reads it; no longer than its datum. -/
theorem open_pts {H : Type} {enc : TypeId × Value → H} {W : World} {a0 : Option Addr} {len cap : Nat} {d : DataW H} {p : List MemPlace}
    (h : DataW.Trod enc Tryd.prog W 0 (fun _ => true) true 22 (.slice a0 len cap) d p) :
    ∃ l : List S44, l.length = len ∧ Kd.C k44 W a0 l.length l ∧ l.length ≤ cap ∧ (d = .nil ∧ len = 0 ∨ ∃ elems spare, d = .slice elems spare ∧ elems.length = len) := by
  obtain ⟨fuel, hf⟩ := h
  rcases open_slice_fields Tryd.underlying22 Tryd.underlying44 (by kernel_rfl) (by kernel_rfl) hf with ⟨hcs, hx⟩ | ⟨a, l, c, m, D, Pl, hcs, _, hl, hm, hmm, hx, hi⟩
  · simp [Value.cells] at hcs
    obtain ⟨rfl, rfl, rfl⟩ := hcs
    simp only [Prod.mk.injEq] at hx
    exact ⟨[], rfl, ⟨rfl, by simp, fun h => absurd h (by simp)⟩, by simp, .inl ⟨hx.1, rfl⟩⟩
  · simp [Value.cells] at hcs
    obtain ⟨rfl, rfl, rfl⟩ := hcs
    simp only [Prod.mk.injEq] at hx
    rw [if_pos rfl] at hmm
    have hF : ∀ i, ∃ q : S44, i < len → W.cell? (a.add (i * 2)) = some (.int .i64 q.f0) ∧ W.cell? (a.add (i * 2 + 1)) = some (.int .i64 q.f1) := fun i => by
      by_cases hlt : i < len
      · obtain ⟨ys, n, _, _, _, hfs⟩ := hi i (by omega)
        obtain ⟨v0, y0, c0, _, t0⟩ := hfs 0 _ rfl
        obtain ⟨v1, y1, c1, _, t1⟩ := hfs 1 _ rfl
        obtain ⟨n0, e0, _, _⟩ := DataW.trod_int Tryd.underlying3 t0
        obtain ⟨n1, e1, _, _⟩ := DataW.trod_int Tryd.underlying3 t1
        obtain rfl := (List.cons.inj e0).1
        obtain rfl := (List.cons.inj e1).1
        exact ⟨⟨n0, n1⟩, fun _ => ⟨by simpa using c0, by simpa using c1⟩⟩
      · exact ⟨z44, fun h => absurd h hlt⟩
    refine ⟨(List.range len).map fun i => Classical.choose (hF i), by simp, ⟨by simp, by simp only [maxLen] at hm; simp; omega, fun _ => ⟨a, rfl, fun j q hq => ?_⟩⟩, by simpa using hl, .inr ⟨_, _, hx.1, by simp⟩⟩
    have hj : j < len := by
      rcases Nat.lt_or_ge j len with h | h
      · exact h
      · rw [List.getElem?_eq_none (by simpa using h)] at hq; cases hq
    have e : q = Classical.choose (hF j) := by
      rw [List.getElem?_map, List.getElem?_range hj] at hq
      exact (Option.some.inj hq).symm
    obtain ⟨h0, h1⟩ := Classical.choose_spec (hF j) hj
    rw [← e] at h0 h1
    refine ⟨[.int .i64 q.f0, .int .i64 q.f1], rfl, k44_mk W q, fun i u hu => ?_⟩
    match i, hu with
    | 0, hu => obtain rfl := Option.some.inj hu; exact h0
    | 1, hu => obtain rfl := Option.some.inj hu; exact h1
end Go.Proofs.YtdacpdhpifocbaaDoor.Open

namespace Go.Proofs.YtdacpdhpifocbaaDoor.fnExactCodeWrite
open Go.ChangeShapes Go.WideShapes Go.ChangeAt Go.RowKit
set_option linter.unusedVariables false
theorem own : ownKnob Tryd.prog.godebug = none := by kernel_rfl
theorem laidOut : laidOutB Tryd.prog = true := by kernel_rfl
/-- The heap that the door's own run leaves meets the condition. -/
theorem door_met (os : Os) (args : Array Value) : laidMetH Tryd.prog Rows.fnExactCodeWriteRow.laid ((World.doorLaid Tryd.prog 34 os).forCall (fun _ _ => 0) ⟨#[], args, []⟩).memory :=
  laidMetH_of_parts3 (fuel := 8) (laidMet_of_run' 8 (by kernel_rfl) (by kernel_rfl)) (by kernel_rfl) (by kernel_rfl)
set_option maxRecDepth 100000 in
theorem lifted (os : Os) (started : os.Started) (H : Type) (enc : TypeId × Value → H) :
    ReturnsInHanded {} Tryd.checked os 3 .any (fun w args => (Rows.fnExactCodeWriteSpec.pre enc Tryd.prog Tryd.f3 Rows.fnExactCodeWriteRow.domain false w args ∧ laidMetH Tryd.prog Rows.fnExactCodeWriteRow.laid w) ∧ sizedMet enc Tryd.prog Tryd.f3 (OpenSpec.ofChange Rows.fnExactCodeWriteSpec) false w args) (Rows.fnExactCodeWriteSpec.post enc Tryd.prog Tryd.f3 false true false false) := by
  refine returnsInHanded_of_change_and (C := Tryd.checked) (X := fun w _ => laidMetH Tryd.prog Rows.fnExactCodeWriteRow.laid w) (fun _ _ _ hh h => h.of_heap hh) own started (by kernel_rfl) Tryd.func3
    (ChangeSpec.witness_shaped (enc := enc) (C := Tryd.checked) (os := os) (X := fun w _ => laidMetH Tryd.prog Rows.fnExactCodeWriteRow.laid w) false (World.doorLaid Tryd.prog 34 os) #[.slice none 0 0] 8 rfl (World.shaped_of_RefB (by kernel_rfl) (by kernel_rfl)) (by kernel_rfl) (by kernel_rfl) (by kernel_rfl) (door_met os _)) ?_
  intro W base args ds gs before hval0 hW hcnd hsz0 _ _
  have hsz : (DataW.weightsEach Tryd.prog (Tryd.f3.params.toList ++ Rows.fnExactCodeWriteSpec.plain.varTypes Tryd.prog) (ds ++ gs)).all (· ≤ reachBytes) = true := hsz0
  have hval : ∀ (j : Nat) t v, Tryd.f3.params[j]? = some t → args[j]? = some v → Value.okWide Tryd.prog W .any base t v := hval0
  have hW' := hW
  obtain ⟨p, q, hA0, hV, rfl, hfz, hnd⟩ := hW
  have hA : DataW.TrodAll enc Tryd.prog W 0 (fun _ => true) true Tryd.f3.params.toList args.toList ds p := hA0
  rw [Tryd.params3] at hA hval hsz
  obtain ⟨v0, vs0, d0, ds0, p0, q0, hargs, rfl, rfl, h0, r0⟩ := trodAll_cons hA
  obtain ⟨rfl, rfl, rfl⟩ := trodAll_nil r0
  obtain rfl : args = #[v0] := by cases args; simp_all
  obtain ⟨rfl, rfl⟩ := trodVars_none hV
  obtain ⟨a0, len0, cap0, rfl⟩ := okWide_slice Tryd.underlying22 (hval 0 22 v0 rfl rfl)
  have k0 := h0
  have lt0 : ∀ x ∈ p0, x.block < W.heap.size := by obtain ⟨m, hm⟩ := k0; exact DataW.trod_lt m _ _ _ hm
  obtain ⟨l, rfl, hC, hcap, hd⟩ := Open.open_pts h0
  have y0 : l.length * 16 ≤ 140737488351232 := by
    rcases hd with ⟨_, e⟩ | ⟨elems, spare, e, he⟩
    · omega
    · have z := sized_slice hsz (j := 0) (t := 22) (elems := elems) (spare := spare) rfl (by rw [e]; rfl) Tryd.underlying22
      rw [show Tryd.prog.bytesOf 44 = 16 by kernel_rfl, show reachBytes = 140737488351232 by kernel_rfl] at z
      omega
  clear hA0 hval0 hsz0 hsz
  obtain ⟨k, hk⟩ := Q.exactCodeWrite l y0
  refine (P.laws_FnExactCodeWrite.calls k a0 cap0 l true W hC hcap hk).mono ?_
  rintro e W' ⟨rfl, bel⟩
  exact ⟨_, rfl, _, _, _, [], _, [], hW', trodAll_mk1 (shut_bool Tryd.underlying4 _), (trodAll_cons_mk (Below.trod laidOut (by kernel_rfl) (of_decide_eq_true (by kernel_rfl)) k0 bel lt0) trodAll_mk0), rfl, bel.frame _, fun h => by cases h⟩
theorem proved : Rows.FnExactCodeWriteSaid :=
  OpenClaim.holds_of_wide 3 Tryd.f3 rfl rfl rfl rfl rfl rfl rfl ⟨rfl, rfl, rfl, rfl, rfl⟩ rfl rfl rfl rfl rfl (by kernel_rfl) Tryd.func3 (by kernel_rfl)
    (of_decide_eq_true (by kernel_rfl)) (by unfold Func.isWrapper; first | (rw [if_pos (by decide +kernel)]; kernel_rfl) | (rw [if_neg (by decide +kernel)]; exact ⟨rfl, rfl⟩))
    (fun os started H enc _ => lifted os started H enc)
end Go.Proofs.YtdacpdhpifocbaaDoor.fnExactCodeWrite
namespace Go.Proofs.YtdacpdhpifocbaaDoor
theorem fnExactCodeWrite_holds : Rows.FnExactCodeWriteSaid := fnExactCodeWrite.proved
#print axioms fnExactCodeWrite_holds
end Go.Proofs.YtdacpdhpifocbaaDoor

