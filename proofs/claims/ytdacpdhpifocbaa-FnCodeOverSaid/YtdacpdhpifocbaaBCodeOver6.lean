/- Part 7 of what CodeOver rests on: contracts of the program's functions and plain facts (the print's texts and the session's own, put together). -/
import Derived.Test.YtdacpdhpifocbaaBCodeOver5
namespace Go.Proofs.Ytdacpdhpifocbaa.P
open Go.RowKit Go.Proofs.YtdacpdhpifocbaaW.PrintWords Go.Proofs.YtdacpdhpifocbaaW.PrintLast Go.Proofs.YtdacpdhpifocbaaW.PrintMore
attribute [local go_sem] max2_int min2_int max_two min_two max_three min_three max_four min_four   -- for this text's walks alone
set_option linter.unusedVariables false
set_option linter.unusedSimpArgs false

attribute [local go_sem high] eqA38
/-! ### spec_DrawCodeStay: function 22 -/
def spec_DrawCodeStay.l0 : Nat → List (S38) → Int → List Int → Int → Int → Int → Option ((List (S38)))
  | 0, _, _, _, _, _, _ => none
  | k + 1, x5, x6, x104000, x104001, x109000, x109001 => if x6 > 0 then ((spec_l6Rd_pick.f k x104000 x104001 2).bind fun bt114 => (if bt114.1 = 0 then ((spec_l6Rd_pick.f k x104000 bt114.2 10).bind fun bt116 => (if 0 ≤ (wrap64 ((x5.length : Int) - 1)) then (if (wrap64 ((x5.length : Int) - 1)) < (x5.length : Int) then (if (!(bt116.1 == ((rd_T38 x5 (wrap64 ((x5.length : Int) - 1))).f0)) || (!(x109001 == ((rd_T38 x5 (wrap64 ((x5.length : Int) - 1))).f1)))) = true then (if x5.length < 8796093022208 then (spec_DrawCodeStay.l0 k (x5 ++ [(⟨bt116.1, x109001⟩ : S38)]) (wrap64 (x6 - 1)) x104000 bt116.2 bt116.1 x109001) else (none)) else ((spec_l6Rd_pick.f k x104000 bt116.2 20).bind fun bt122 => (if bt122.1 = 0 then (if x5.length < 8796093022208 then (spec_DrawCodeStay.l0 k (x5 ++ [(⟨bt116.1, x109001⟩ : S38)]) (wrap64 (x6 - 1)) x104000 bt122.2 bt116.1 x109001) else (none)) else (spec_DrawCodeStay.l0 k x5 (wrap64 (x6 - 1)) x104000 bt122.2 bt116.1 x109001)))) else (none)) else (none))) else ((spec_l6Rd_pick.f k x104000 bt114.2 10).bind fun bt127 => (if 0 ≤ (wrap64 ((x5.length : Int) - 1)) then (if (wrap64 ((x5.length : Int) - 1)) < (x5.length : Int) then (if (!(x109000 == ((rd_T38 x5 (wrap64 ((x5.length : Int) - 1))).f0)) || (!(bt127.1 == ((rd_T38 x5 (wrap64 ((x5.length : Int) - 1))).f1)))) = true then (if x5.length < 8796093022208 then (spec_DrawCodeStay.l0 k (x5 ++ [(⟨x109000, bt127.1⟩ : S38)]) (wrap64 (x6 - 1)) x104000 bt127.2 x109000 bt127.1) else (none)) else ((spec_l6Rd_pick.f k x104000 bt127.2 20).bind fun bt133 => (if bt133.1 = 0 then (if x5.length < 8796093022208 then (spec_DrawCodeStay.l0 k (x5 ++ [(⟨x109000, bt127.1⟩ : S38)]) (wrap64 (x6 - 1)) x104000 bt133.2 x109000 bt127.1) else (none)) else (spec_DrawCodeStay.l0 k x5 (wrap64 (x6 - 1)) x104000 bt133.2 x109000 bt127.1)))) else (none)) else (none))))) else ((spec_l6Rd_pick.f k x104000 x104001 12).bind fun bt138 => (if bt138.1 = 0 then ((spec_l71Pt.f k x104000 bt138.2).bind fun bt140 => (if x5.length < 8796093022208 then (some (x5 ++ [(⟨bt140.1, bt140.2.1⟩ : S38)])) else (none))) else (some x5)))
def spec_DrawCodeStay.f (k : Nat) (l0 : List Int) : Option ((List (S38))) := (spec_l6Open.f l0).bind fun bt101 => ((spec_l6Rd_pick.f k bt101.1 bt101.2 10).bind fun bt104 => ((spec_l6Rd_pick.f k bt101.1 bt104.2 10).bind fun bt106 => ((spec_l6Rd_pick.f k bt101.1 bt106.2 7).bind fun bt112 => (spec_DrawCodeStay.l0 k (([(⟨bt104.1, bt106.1⟩ : S38)] : List (S38))) bt112.1 bt101.1 bt112.2 bt104.1 bt106.1))))
theorem spec_DrawCodeStay.mono_l : ∀ k, (∀ y0 y1 y2 y3 y4 y5, LeO (spec_DrawCodeStay.l0 k y0 y1 y2 y3 y4 y5) (spec_DrawCodeStay.l0 (k + 1) y0 y1 y2 y3 y4 y5))
  | 0 => fun _ _ _ _ _ _ r h => by simp [spec_DrawCodeStay.l0] at h
  | k + 1 => by
    have ih0 := spec_DrawCodeStay.mono_l k
    · intro y0 y1 y2 y3 y4 y5
      unfold spec_DrawCodeStay.l0
      repeat' first
      | (with_reducible exact ih0 _ _ _ _ _ _)
      | (with_reducible exact spec_l6Rd_pick.mono _ _ _ _)
      | (with_reducible exact spec_l71Pt.mono _ _ _)
      | (with_reducible exact LeO.refl _)
      | (with_reducible exact LeO.none _)
      | (with_reducible refine LeO.ite ?_ ?_)
      | (with_reducible refine LeO.bind ?_ (fun _ => ?_))
      | exact ih0 _ _ _ _ _ _
      | exact spec_l6Rd_pick.mono _ _ _ _
      | exact spec_l71Pt.mono _ _ _
      | exact LeO.none _
      | refine LeO.ite ?_ ?_
      | refine LeO.bind ?_ (fun _ => ?_)
theorem spec_DrawCodeStay.mono : ∀ a0 k, LeO (spec_DrawCodeStay.f k a0) (spec_DrawCodeStay.f (k + 1) a0) := by
  intro a0 k
  have ih0 := spec_DrawCodeStay.mono_l k
  unfold spec_DrawCodeStay.f
  repeat' first
      | (with_reducible exact ih0 _ _ _ _ _ _)
      | (with_reducible exact spec_l6Rd_pick.mono _ _ _ _)
      | (with_reducible exact spec_l71Pt.mono _ _ _)
      | (with_reducible exact LeO.refl _)
      | (with_reducible exact LeO.none _)
      | (with_reducible refine LeO.ite ?_ ?_)
      | (with_reducible refine LeO.bind ?_ (fun _ => ?_))
      | exact ih0 _ _ _ _ _ _
      | exact spec_l6Rd_pick.mono _ _ _ _
      | exact spec_l71Pt.mono _ _ _
      | exact LeO.none _
      | refine LeO.ite ?_ ?_
      | refine LeO.bind ?_ (fun _ => ?_)
def spec_DrawCodeStay.T10 : Bool × List (List Nat × List Nat) := (true, [([], []), ([], []), ([], []), ([2], [2]), ([3], [3]), ([1, 4], [1, 4]), ([5], [5]), ([0, 6], [0, 6]), ([7], [7]), ([8], [8]), ([9, 8, 8], [8, 9]), ([10, 8], [8, 10]), ([8, 11], [8, 11])])
def spec_DrawCodeStay.B10 : List Nat := [0, 0, 0, 4, 12, 30, 62, 127, 255, 511, 1023, 2047, 4095]
theorem spec_DrawCodeStay.tab10 : rtab .any (opsOf Try.f22 10) = spec_DrawCodeStay.T10 := by kernel_rfl
theorem spec_DrawCodeStay.bits10 : waitsOk spec_DrawCodeStay.T10.2 spec_DrawCodeStay.B10 = true := by kernel_rfl
set_option hygiene false in
local macro "zq39_1" : tactic => `(tactic| (with_reducible repeat (first | refine blk_drewN ?_ _ | refine blk_drew ?_ | refine blk_alloc ?_ _)))
set_option hygiene false in
local macro "zq39_2" : tactic => `(tactic| (case side2 => repeat (first | (with_reducible first | exact HB.out | apply below_alloc | apply pw_below_drewN | apply below_drew1 | refine below_set ?_ (IsS57.ge HI103.out) | refine below_set ?_ GE108.out) | exact HB.out)))
set_option hygiene false in
local macro "zq39_3" : tactic => `(tactic| (case side1 => repeat (first | (with_reducible first | exact HI103.out | apply IsS57.alloc | apply IsS57.drewN | apply IsS57.drew | apply IsS57.set_1 | refine IsS57.far ?_ NB103_108.out _) | exact HI103.out)))
set_option hygiene false in
local macro "zq39_4" : tactic => `(tactic| (with_reducible repeat (first | apply Kd.R_alloc | apply Kd.R_drewN | apply Kd.R_drew)))
set_option hygiene false in
local macro "zq39_5" : term => `((by (try simp only [List.map_toArray, List.map_cons, List.map_nil]); first | done | rfl | (simp only [List.length_drop, List.length_take]; rfl)))
set_option hygiene false in
local macro "zq39_6" : term => `((by repeat (first | (with_reducible first | exact HB.out | apply below_alloc | apply pw_below_drewN | apply below_drew1 | refine below_set ?_ (IsS57.ge HI103.out) | refine below_set ?_ GE108.out) | exact HB.out)))
set_option hygiene false in
local macro "zq39_7" : term => `((by first | (rw [add_block]; exact Kd.own_blk (IsS57.own_ne HI103.out HO_5.out (by decide))) | (show (Addr.add _ _).block ≠ _; rw [add_block]; exact Kd.own_blk (IsS57.own_ne HI103.out HO_5.out (by decide))) | exact Kd.own_blk (IsS57.own_ne HI103.out HO_5.out (by decide))))
set_option hygiene false in
local macro "zq39_8" : term => `((by repeat (first | (with_reducible first | exact HI103.out | apply IsS57.alloc | apply IsS57.drewN | apply IsS57.drew | apply IsS57.set_1 | refine IsS57.far ?_ NB103_108.out _) | exact HI103.out)))
set_option hygiene false in
local macro "zq39_9" : tactic => `(tactic| (with_reducible refine (spec_l6Rd_pick.calls k1 g103 t101 x104001_1 2 t114 t115 w _ ?side1 ?side2 A16.out).mono ?_))
set_option hygiene false in
local macro "zq39_10" : term => `((by first | (with_reducible assumption) | assumption))
set_option hygiene false in
local macro "zq39_11" : term => `((by repeat (first | (with_reducible first | exact HB.out | apply below_alloc | apply pw_below_drewN | apply below_drew1 | refine below_set ?_ (IsS57.ge HI103.out)) | exact HB.out)))
set_option hygiene false in
local macro "zq39_12" : term => `((by first | rfl | (simp; done) | (simp [*]; done)))
set_option hygiene false in
local macro "zq39_13" : tactic => `(tactic| (with_reducible refine (spec_l6Rd_pick.calls k1 g103 t101 t115 10 t116 t117 w _ ?side1 ?side2 A18.out).mono ?_))
set_option hygiene false in
local macro "zq39_14" : tactic => `(tactic| (with_reducible refine (spec_l6Rd_pick.calls k1 g103 t101 t115 10 t127 t128 w _ ?side1 ?side2 A54.out).mono ?_))
set_option hygiene false in
local macro "zq39_15" : tactic => `(tactic| (case side2 => repeat (first | (with_reducible first | exact HB.out | apply below_alloc | apply pw_below_drewN | apply below_drew1 | refine below_set ?_ (IsS57.ge HI103.out)) | exact HB.out)))
set_option hygiene false in
local macro "zq39_18" : tactic => `(tactic| (case side1 => repeat (first | (with_reducible first | exact HI103.out | apply IsS57.alloc | apply IsS57.drewN | apply IsS57.drew | apply IsS57.set_1) | exact HI103.out)))
set_option hygiene false in
local macro "zq39_16" : term => `((by (zq39_1); refine blk_put (cs := #[.int .i64 t104, .int .i64 0]) ?_ 1 _ rfl; (zq39_1); refine blk_put (cs := #[.int .i64 0, .int .i64 0]) ?_ 0 _ rfl; (zq39_1); exact BK108.out))
set_option hygiene false in
local macro "zq39_17" : tactic => `(tactic| (case aO => exact (by (zq39_4); exact HO_5.out)))
set_option maxHeartbeats 8000000 in
set_option maxRecDepth 100000 in
theorem spec_DrawCodeStay.calls (k : Nat) (A0 : Option Addr) (c0 : Nat) (l0 : List Int) (r : List (S38)) (w : World) (hr0 : Kd.C (Kd.int .u8) w A0 l0.length l0) (hc0 : l0.length ≤ c0) (h : spec_DrawCodeStay.f k l0 = some r) :
  Calls Try.prog 22 #[.slice A0 l0.length c0] w fun e w' => ∃ v0_ : Value, e = .returned (v0_) ∧ Kd.R k38 38 w' w.heap.size (fun _ => True) v0_ r ∧ Below w.heap.size w w' := by
 have hu38 := Try.underlying38
 have HR0 := Aside0.mk hr0
 have HC0 := Aside0.mk hc0
 clear hr0 hc0
 have HB := Aside0.mk (Below.refl w.heap.size w)
 have H : ((spec_l6Open.f l0).bind fun bt101 => ((spec_l6Rd_pick.f k bt101.1 bt101.2 10).bind fun bt104 => ((spec_l6Rd_pick.f k bt101.1 bt104.2 10).bind fun bt106 => ((spec_l6Rd_pick.f k bt101.1 bt106.2 7).bind fun bt112 => (spec_DrawCodeStay.l0 k (([(⟨bt104.1, bt106.1⟩ : S38)] : List (S38))) bt112.1 bt101.1 bt112.2 bt104.1 bt106.1))))) = some r := h
 clear h
 replace H := Option.bind_eq_some_iff.mp H
 obtain ⟨⟨t101, t102⟩, A20, H⟩ := H
 replace H : ((spec_l6Rd_pick.f k t101 t102 10).bind fun bt104 => ((spec_l6Rd_pick.f k t101 bt104.2 10).bind fun bt106 => ((spec_l6Rd_pick.f k t101 bt106.2 7).bind fun bt112 => (spec_DrawCodeStay.l0 k (([(⟨bt104.1, bt106.1⟩ : S38)] : List (S38))) bt112.1 t101 bt112.2 bt104.1 bt106.1)))) = some r := H
 have A2 := Aside0.mk A20
 clear A20
 replace H := Option.bind_eq_some_iff.mp H
 obtain ⟨⟨t104, t105⟩, A30, H⟩ := H
 replace H : ((spec_l6Rd_pick.f k t101 t105 10).bind fun bt106 => ((spec_l6Rd_pick.f k t101 bt106.2 7).bind fun bt112 => (spec_DrawCodeStay.l0 k (([(⟨t104, bt106.1⟩ : S38)] : List (S38))) bt112.1 t101 bt112.2 t104 bt106.1))) = some r := H
 have A3 := Aside0.mk A30
 clear A30
 replace H := Option.bind_eq_some_iff.mp H
 obtain ⟨⟨t106, t107⟩, A40, H⟩ := H
 replace H : ((spec_l6Rd_pick.f k t101 t107 7).bind fun bt112 => (spec_DrawCodeStay.l0 k (([(⟨t104, t106⟩ : S38)] : List (S38))) bt112.1 t101 bt112.2 t104 t106)) = some r := H
 have A4 := Aside0.mk A40
 clear A40
 obtain ⟨y109, hy109⟩ : ∃ y_ : List (S38), y_ = (([(⟨t104, t106⟩ : S38)] : List (S38))) := ⟨_, rfl⟩
 replace H : ((spec_l6Rd_pick.f k t101 t107 7).bind fun bt112 => (spec_DrawCodeStay.l0 k y109 bt112.1 t101 bt112.2 t104 t106)) = some r := by first | (rw [hy109]; with_reducible exact H) | (have H2_ := (Option.bind_some _ _).symm.trans H; rw [hy109]; with_reducible exact H2_) | (have H2_ := (Option.bind_some _ _).symm.trans H; with_reducible exact H2_) | with_reducible exact H | (rw [hy109]; exact H) | exact H
 have Ny109 := Aside0.mk hy109
 clear hy109
 replace H := Option.bind_eq_some_iff.mp H
 obtain ⟨⟨t112, t113⟩, A50, H⟩ := H
 replace H : (spec_DrawCodeStay.l0 k y109 t112 t101 t113 t104 t106) = some r := H
 have A5 := Aside0.mk A50
 clear A50
 have H' := Aside0.mk H
 clear H
 go_enter Try.func22, Try.ntmps22
 go_wp2_with (first | ((with_reducible refine gate_callee (f := 36) rfl ?_); refine goesL_ (some 8) rfl rfl Try.func36 (by kernel_rfl) rfl #[.slice A0 l0.length c0] rfl zq39_5 ?_; (with_reducible refine (spec_l6Open.calls _ _ l0 t101 t102 w _ ?side1 ?side2 ?side3 A2.out).mono ?_); (case side1 => repeat (first | (with_reducible first | exact HB.out | apply below_alloc | apply pw_below_drewN | apply below_drew1) | exact HB.out)); (case side2 => exact HR0.out); (case side3 => exact HC0.out); rintro e w6 ⟨g103, rfl, hi, hb, hb2⟩; refine ⟨_, rfl, ?_⟩; have n0_ := Aside0.mk (hb); have n1_ := Aside0.mk (hi); clear HB; have HB := n0_; have HI103 := n1_; clear n0_ n1_; (try clear hb); (try clear hb2); (try clear hk); (try clear hi)) | ((with_reducible refine gate_callee (f := 38) rfl ?_); refine goesL_ (some 10) rfl rfl Try.func38 (by kernel_rfl) rfl #[.pointer (some ⟨g103, 0, none⟩), .int .i64 10] rfl zq39_5 ?_; (with_reducible refine (spec_l6Rd_pick.calls k g103 t101 t102 10 t104 t105 w _ ?side1 ?side2 A3.out).mono ?_); (zq39_18); (zq39_15); rintro e w7 ⟨rfl, hi, hb, hk⟩; refine ⟨_, rfl, ?_⟩; have n0_ := Aside0.mk (hb); have n1_ := Aside0.mk (hi); clear HB; clear HI103; have HB := n0_; have HI103 := n1_; clear n0_ n1_; (try clear hb); (try clear hb2); (try clear hk); (try clear hi)) | ((with_reducible refine gate_callee (f := 38) rfl ?_); refine goesL_ (some 12) rfl rfl Try.func38 (by kernel_rfl) rfl #[.pointer (some ⟨g103, 0, none⟩), .int .i64 10] rfl zq39_5 ?_; (with_reducible refine (spec_l6Rd_pick.calls k g103 t101 t105 10 t106 t107 w _ ?side1 ?side2 A4.out).mono ?_); (zq39_18); (zq39_15); rintro e w8 ⟨rfl, hi, hb, hk⟩; refine ⟨_, rfl, ?_⟩; have n0_ := Aside0.mk (hb); have n1_ := Aside0.mk (hi); clear HB; clear HI103; have HB := n0_; have HI103 := n1_; clear n0_ n1_; (try clear hb); (try clear hb2); (try clear hk); (try clear hi)) | ((with_reducible refine gate_dst (N := 4) rfl ?_); refine box_event ?hg (N := 4) ?hd (cs := #[.int .i64 0, .int .i64 0]) (t := 38) ?hr ?_; (case hd => rfl); (case hg => rfl); (case hr => first | (go_simp; done) | (go_simp; rfl)); intro gb108 hg w9 hbox hb; have n0_ := Aside0.mk (IsS57.below (by repeat (first | (with_reducible first | exact HI103.out | apply IsS57.alloc | apply IsS57.drewN | apply IsS57.drew | apply IsS57.set_1) | exact HI103.out)) hb); have n1_ := Aside0.mk (below_step zq39_11 hb); have n2_ := Aside0.mk (hbox); have n3_ := Aside0.mk ((by rw [hg]; exact (below_size zq39_11) : w.heap.size ≤ gb108)); have n4_ := Aside0.mk ((by rw [hg]; exact (below_size zq39_11) : w.heap.size ≤ gb108)); have n5_ := Aside0.mk ((by rw [hg]; exact Nat.ne_of_lt (IsS57.lt (show IsS57 w _ g103 t101 t107 from by repeat (first | (with_reducible first | exact HI103.out | apply IsS57.alloc | apply IsS57.drewN | apply IsS57.drew | apply IsS57.set_1) | exact HI103.out))) : g103 ≠ gb108)); have n6_ := Aside0.mk ((by rw [hg]; exact Nat.ne_of_gt (IsS57.lt (show IsS57 w _ g103 t101 t107 from by repeat (first | (with_reducible first | exact HI103.out | apply IsS57.alloc | apply IsS57.drewN | apply IsS57.drew | apply IsS57.set_1) | exact HI103.out))) : gb108 ≠ g103)); clear HI103; clear HB; have HI103 := n0_; have HB := n1_; have BK108 := n2_; have GW108 := n3_; have GE108 := n4_; have NB103_108 := n5_; have NB108_103 := n6_; clear n0_ n1_ n2_ n3_ n4_ n5_ n6_; clear hb hbox hg; have hnb10 := NB108_103.out; have hnc10 := NB103_108.out; have hcz11_0 : w9.cell? ⟨gb108, 0, none⟩ = some (.int .i64 0) := (blk_cell BK108.out 0).trans rfl; have hcz11_1 : w9.cell? ⟨gb108, 1, none⟩ = some (.int .i64 0) := (blk_cell BK108.out 1).trans rfl; have hfz11_0 := blk_frozen BK108.out 0; have hfz11_1 := blk_frozen BK108.out 1) | ((with_reducible refine gate_dst (N := 15) rfl ?_); refine Kd.R_lit k38 _ 38 ?hg (N := 15) ?hd (xs := ([(⟨t104, t106⟩ : S38)] : List (S38))) (inner := [.int .i64 t104, .int .i64 t106]) (ok := fun _ => True) (okp := fun _ => True) ?hr ?hp (fun _ hk => hk) trivial (Below.refl _ _) (Nat.le_refl _) (by simp) ?_; (case hd => rfl); (case hg => rfl); (case hr => first | (go_simp; done) | (go_simp; rfl)); (case hp => exact (Reps.c2 (show Kd.M k38 _ _ _ (⟨t104, t106⟩ : S38) [.int .i64 t104, .int .i64 t106] from (k38_mkM _ _ _ (⟨t104, t106⟩ : S38) )) (Reps.none _ _))); intro v110 w12 ho13 hb hg_ hnew_; clear hg_ hnew_; (first | rw [← Ny109.out] at ho13 | (simp only [Int.reduceToNat] at ho13; rw [← Ny109.out] at ho13)); have n0_ := Aside0.mk (Kd.R_lower (Kd.R_newB ho13 (g := gb108) (o := .cells #[.int .i64 t104, .int .i64 t106] 38 (0, 0)) zq39_16) (below_size zq39_6)); have n1_ := Aside0.mk (IsS57.below (show IsS57 w ((w9.setCell ⟨gb108, 0, none⟩ (.int .i64 t104)).setCell ⟨gb108, 1, none⟩ (.int .i64 t106)) g103 t101 t107 from by repeat (first | (with_reducible first | exact HI103.out | apply IsS57.alloc | apply IsS57.drewN | apply IsS57.drew | apply IsS57.set_1 | refine IsS57.far ?_ NB103_108.out _) | exact HI103.out)) hb); have n2_ := Aside0.mk (blk_below (g := gb108) (o := .cells #[.int .i64 t104, .int .i64 t106] 38 (0, 0)) zq39_16 hb); have n3_ := Aside0.mk (below_step zq39_6 hb); clear HI103; clear BK108; clear HB; have HO111 := n0_; have HI103 := n1_; have BK108 := n2_; have HB := n3_; clear n0_ n1_ n2_ n3_; clear hb ho13) | ((with_reducible refine gate_callee (f := 38) rfl ?_); refine goesL_ (some 17) rfl rfl Try.func38 (by kernel_rfl) rfl #[.pointer (some ⟨g103, 0, none⟩), .int .i64 7] rfl zq39_5 ?_; (with_reducible refine (spec_l6Rd_pick.calls k g103 t101 t107 7 t112 t113 w _ ?side1 ?side2 A5.out).mono ?_); (zq39_3); (zq39_2); rintro e w14 ⟨rfl, hi, hb, hk⟩; refine ⟨_, rfl, ?_⟩; have n0_ := Aside0.mk (KeepBut.blk hk (g' := gb108) (o := .cells #[.int .i64 t104, .int .i64 t106] 38 (0, 0)) (by (zq39_1); exact BK108.out) NB108_103.out (by simp)); have n1_ := Aside0.mk (Kd.R_mono (Kd.R_keep (IsS57.apart (show IsS57 w _ g103 t101 t107 from by repeat (first | (with_reducible first | exact HI103.out | apply IsS57.alloc | apply IsS57.drewN | apply IsS57.drew | apply IsS57.set_1 | refine IsS57.far ?_ NB103_108.out _) | exact HI103.out)) (by (zq39_4); exact HO111.out) (by decide)) hk (fun _ h => h.2)) (fun _ h => h.1)); have n2_ := Aside0.mk (hb); have n3_ := Aside0.mk (hi); clear BK108; clear HO111; clear HB; clear HI103; have BK108 := n0_; have HO111 := n1_; have HB := n2_; have HI103 := n3_; clear n0_ n1_ n2_ n3_; (try clear hb); (try clear hb2); (try clear hk); (try clear hi)))
 go_loopg [5, 6] k (fun kq v5 v6 w' => ∃ (x5_1 : List (S38)) (x6_1 : Int) (x104001_1 : Int) (x109000_1 : Int) (x109001_1 : Int), v6 = .int .i64 x6_1 ∧ Aside0 (spec_DrawCodeStay.l0 kq x5_1 x6_1 t101 x104001_1 x109000_1 x109001_1 = some r) ∧ Aside0 (kq ≤ k) ∧ Aside0 (Kd.R k38 38 w' w.heap.size (fun k_ => k_ ≠ gb108) v5 x5_1) ∧ Aside0 (w'.heap[gb108]? = some (.cells #[.int .i64 x109000_1, .int .i64 x109001_1] 38 (0, 0))) ∧ Aside0 (IsS57 w w' g103 t101 x104001_1) ∧ Aside0 (Below w.heap.size w w'))
 case atStart => exact ⟨(y109), (t112), (t113), (t104), (t106), zq39_12, H', ⟨Nat.le_refl _⟩, ⟨by (zq39_4); exact Kd.R_mono HO111.out (fun _ hk => hk.2)⟩, ⟨by (zq39_1); exact BK108.out⟩, ⟨by repeat (first | (with_reducible first | exact HI103.out | apply IsS57.alloc | apply IsS57.drewN | apply IsS57.drew | apply IsS57.set_1 | refine IsS57.far ?_ NB103_108.out _) | exact HI103.out)⟩, ⟨by repeat (first | (with_reducible first | exact HB.out | apply below_alloc | apply pw_below_drewN | apply below_drew1 | refine below_set ?_ (IsS57.ge HI103.out) | refine below_set ?_ GE108.out) | exact HB.out)⟩⟩
 case round =>
  clear H'
  try clear c1
  try clear c2
  try clear p2
  try clear c3
  try clear c10
  try clear hcz11_0
  try clear hcz11_1
  try clear hfz11_0
  try clear hfz11_1
  obtain ⟨x5_1, x6_1, x104001_1, x109000_1, x109001_1, rfl, HA, HK1, HO_5, BK108, HI103, HB⟩ := hrel
  cases gk with
  | zero => exact absurd HA.out (by simp [spec_DrawCodeStay.l0])
  | succ k1 =>
   have H := HA.out
   clear HA
   simp only [spec_DrawCodeStay.l0] at H
   by_cases c15 : x6_1 > 0
   ·rw [if_pos c15] at H
    have c15b0 : decide (0 < x6_1) = true := decide_eq_true c15
    clear c15
    replace H := Option.bind_eq_some_iff.mp H
    obtain ⟨⟨t114, t115⟩, A160, H⟩ := H
    replace H : (if t114 = 0 then ((spec_l6Rd_pick.f k1 t101 t115 10).bind fun bt116 => (if 0 ≤ (wrap64 ((x5_1.length : Int) - 1)) then (if (wrap64 ((x5_1.length : Int) - 1)) < (x5_1.length : Int) then (if (!(bt116.1 == ((rd_T38 x5_1 (wrap64 ((x5_1.length : Int) - 1))).f0)) || (!(x109001_1 == ((rd_T38 x5_1 (wrap64 ((x5_1.length : Int) - 1))).f1)))) = true then (if x5_1.length < 8796093022208 then (spec_DrawCodeStay.l0 k1 (x5_1 ++ [(⟨bt116.1, x109001_1⟩ : S38)]) (wrap64 (x6_1 - 1)) t101 bt116.2 bt116.1 x109001_1) else (none)) else ((spec_l6Rd_pick.f k1 t101 bt116.2 20).bind fun bt122 => (if bt122.1 = 0 then (if x5_1.length < 8796093022208 then (spec_DrawCodeStay.l0 k1 (x5_1 ++ [(⟨bt116.1, x109001_1⟩ : S38)]) (wrap64 (x6_1 - 1)) t101 bt122.2 bt116.1 x109001_1) else (none)) else (spec_DrawCodeStay.l0 k1 x5_1 (wrap64 (x6_1 - 1)) t101 bt122.2 bt116.1 x109001_1)))) else (none)) else (none))) else ((spec_l6Rd_pick.f k1 t101 t115 10).bind fun bt127 => (if 0 ≤ (wrap64 ((x5_1.length : Int) - 1)) then (if (wrap64 ((x5_1.length : Int) - 1)) < (x5_1.length : Int) then (if (!(x109000_1 == ((rd_T38 x5_1 (wrap64 ((x5_1.length : Int) - 1))).f0)) || (!(bt127.1 == ((rd_T38 x5_1 (wrap64 ((x5_1.length : Int) - 1))).f1)))) = true then (if x5_1.length < 8796093022208 then (spec_DrawCodeStay.l0 k1 (x5_1 ++ [(⟨x109000_1, bt127.1⟩ : S38)]) (wrap64 (x6_1 - 1)) t101 bt127.2 x109000_1 bt127.1) else (none)) else ((spec_l6Rd_pick.f k1 t101 bt127.2 20).bind fun bt133 => (if bt133.1 = 0 then (if x5_1.length < 8796093022208 then (spec_DrawCodeStay.l0 k1 (x5_1 ++ [(⟨x109000_1, bt127.1⟩ : S38)]) (wrap64 (x6_1 - 1)) t101 bt133.2 x109000_1 bt127.1) else (none)) else (spec_DrawCodeStay.l0 k1 x5_1 (wrap64 (x6_1 - 1)) t101 bt133.2 x109000_1 bt127.1)))) else (none)) else (none)))) = some r := H
    have A16 := Aside0.mk A160
    clear A160
    by_cases c17 : t114 = 0
    ·rw [if_pos c17] at H
     have c17b0 : (t114 == 0) = true := beq_iff_eq.mpr c17
     have c17b1 : (t114 != 0) = false := bne_eq_false_iff_eq.mpr c17
     clear c17
     replace H := Option.bind_eq_some_iff.mp H
     obtain ⟨⟨t116, t117⟩, A180, H⟩ := H
     replace H : (if 0 ≤ (wrap64 ((x5_1.length : Int) - 1)) then (if (wrap64 ((x5_1.length : Int) - 1)) < (x5_1.length : Int) then (if (!(t116 == ((rd_T38 x5_1 (wrap64 ((x5_1.length : Int) - 1))).f0)) || (!(x109001_1 == ((rd_T38 x5_1 (wrap64 ((x5_1.length : Int) - 1))).f1)))) = true then (if x5_1.length < 8796093022208 then (spec_DrawCodeStay.l0 k1 (x5_1 ++ [(⟨t116, x109001_1⟩ : S38)]) (wrap64 (x6_1 - 1)) t101 t117 t116 x109001_1) else (none)) else ((spec_l6Rd_pick.f k1 t101 t117 20).bind fun bt122 => (if bt122.1 = 0 then (if x5_1.length < 8796093022208 then (spec_DrawCodeStay.l0 k1 (x5_1 ++ [(⟨t116, x109001_1⟩ : S38)]) (wrap64 (x6_1 - 1)) t101 bt122.2 t116 x109001_1) else (none)) else (spec_DrawCodeStay.l0 k1 x5_1 (wrap64 (x6_1 - 1)) t101 bt122.2 t116 x109001_1)))) else (none)) else (none)) = some r := H
     have A18 := Aside0.mk A180
     clear A180
     obtain ⟨ji19, hji19⟩ : ∃ j_ : Int, (wrap64 ((x5_1.length : Int) - 1)) = j_ := ⟨_, rfl⟩
     replace H : (if 0 ≤ (ji19) then (if (ji19) < (x5_1.length : Int) then (if (!(t116 == ((rd_T38 x5_1 (ji19)).f0)) || (!(x109001_1 == ((rd_T38 x5_1 (ji19)).f1)))) = true then (if x5_1.length < 8796093022208 then (spec_DrawCodeStay.l0 k1 (x5_1 ++ [(⟨t116, x109001_1⟩ : S38)]) (wrap64 (x6_1 - 1)) t101 t117 t116 x109001_1) else (none)) else ((spec_l6Rd_pick.f k1 t101 t117 20).bind fun bt122 => (if bt122.1 = 0 then (if x5_1.length < 8796093022208 then (spec_DrawCodeStay.l0 k1 (x5_1 ++ [(⟨t116, x109001_1⟩ : S38)]) (wrap64 (x6_1 - 1)) t101 bt122.2 t116 x109001_1) else (none)) else (spec_DrawCodeStay.l0 k1 x5_1 (wrap64 (x6_1 - 1)) t101 bt122.2 t116 x109001_1)))) else (none)) else (none)) = some r := by first | (rw [hji19] at H; exact H) | (simp only [hji19] at H ⊢; exact H)
     (try rw [hji19] at A16)
     (try rw [hji19] at A18)
     have hji19w : (IntKind.i64.wrap ((x5_1.length : Int) - 1)) = ji19 := (i64_w _).trans hji19
     by_cases c20 : 0 ≤ (ji19)
     ·rw [if_pos c20] at H
      have c20b0 : decide (0 ≤ (ji19)) = true := decide_eq_true c20
      clear c20
      by_cases c21 : (ji19) < (x5_1.length : Int)
      ·rw [if_pos c21] at H
       have c21b0 : decide ((ji19) < (x5_1.length : Int)) = true := decide_eq_true c21
       clear c21
       by_cases c22 : (!(t116 == ((rd_T38 x5_1 (ji19)).f0)) || (!(x109001_1 == ((rd_T38 x5_1 (ji19)).f1)))) = true
       ·rw [if_pos c22] at H
        have c22b0 : (!(t116 == ((rd_T38 x5_1 (ji19)).f0)) || (!(x109001_1 == ((rd_T38 x5_1 (ji19)).f1)))) = true := c22
        clear c22
        by_cases c23 : x5_1.length < 8796093022208
        ·rw [if_pos c23] at H
         have LMc23 := Aside0.mk c23
         clear c23
         obtain ⟨y119, hy119⟩ : ∃ y_ : List (S38), y_ = (x5_1 ++ [(⟨t116, x109001_1⟩ : S38)]) := ⟨_, rfl⟩
         replace H : (spec_DrawCodeStay.l0 k1 y119 (wrap64 (x6_1 - 1)) t101 t117 t116 x109001_1) = some r := by first | (rw [hy119]; with_reducible exact H) | (have H2_ := (Option.bind_some _ _).symm.trans H; rw [hy119]; with_reducible exact H2_) | (have H2_ := (Option.bind_some _ _).symm.trans H; with_reducible exact H2_) | with_reducible exact H | (rw [hy119]; exact H) | exact H
         have Ny119 := Aside0.mk hy119
         clear hy119
         have H' := Aside0.mk H
         clear H
         try go_wp2_with (first | ((with_reducible refine gate_callee (f := 38) rfl ?_); refine goesL_ (some 23) rfl rfl Try.func38 (by kernel_rfl) rfl #[.pointer (some ⟨g103, 0, none⟩), .int .i64 2] rfl zq39_5 ?_; (zq39_9); (zq39_3); (zq39_2); rintro e w24 ⟨rfl, hi, hb, hk⟩; refine ⟨_, rfl, ?_⟩; have n0_ := Aside0.mk (Kd.R_mono (Kd.R_keep (IsS57.apart (show IsS57 w _ g103 t101 x104001_1 from by repeat (first | (with_reducible first | exact HI103.out | apply IsS57.alloc | apply IsS57.drewN | apply IsS57.drew | apply IsS57.set_1 | refine IsS57.far ?_ NB103_108.out _) | exact HI103.out)) (by (zq39_4); exact HO_5.out) (by decide)) hk (fun _ h => h.2)) (fun _ h => h.1)); have n1_ := Aside0.mk (KeepBut.blk hk (g' := gb108) (o := .cells #[.int .i64 x109000_1, .int .i64 x109001_1] 38 (0, 0)) (by (zq39_1); exact BK108.out) NB108_103.out (by simp)); have n2_ := Aside0.mk (hb); have n3_ := Aside0.mk (hi); clear HO_5; clear BK108; clear HB; clear HI103; have HO_5 := n0_; have BK108 := n1_; have HB := n2_; have HI103 := n3_; clear n0_ n1_ n2_ n3_; (try clear hb); (try clear hb2); (try clear hk); (try clear hi)) | ((with_reducible refine gate_callee (f := 38) rfl ?_); refine goesL_ (some 26) rfl rfl Try.func38 (by kernel_rfl) rfl #[.pointer (some ⟨g103, 0, none⟩), .int .i64 10] rfl zq39_5 ?_; (zq39_13); (zq39_3); (zq39_2); rintro e w25 ⟨rfl, hi, hb, hk⟩; refine ⟨_, rfl, ?_⟩; have n0_ := Aside0.mk (Kd.R_mono (Kd.R_keep (IsS57.apart (show IsS57 w _ g103 t101 t115 from by repeat (first | (with_reducible first | exact HI103.out | apply IsS57.alloc | apply IsS57.drewN | apply IsS57.drew | apply IsS57.set_1 | refine IsS57.far ?_ NB103_108.out _) | exact HI103.out)) (by (zq39_4); exact HO_5.out) (by decide)) hk (fun _ h => h.2)) (fun _ h => h.1)); have n1_ := Aside0.mk (KeepBut.blk hk (g' := gb108) (o := .cells #[.int .i64 x109000_1, .int .i64 x109001_1] 38 (0, 0)) (by (zq39_1); exact BK108.out) NB108_103.out (by simp)); have n2_ := Aside0.mk (hb); have n3_ := Aside0.mk (hi); clear HO_5; clear BK108; clear HB; clear HI103; have HO_5 := n0_; have BK108 := n1_; have HB := n2_; have HI103 := n3_; clear n0_ n1_ n2_ n3_; (try clear hb); (try clear hb2); (try clear hk); (try clear hi); have hnb26 := NB108_103.out; have hnc26 := NB103_108.out; have hcz27_0 : w25.cell? ⟨gb108, 0, none⟩ = some (.int .i64 x109000_1) := (blk_cell BK108.out 0).trans rfl; have hcz27_1 : w25.cell? ⟨gb108, 1, none⟩ = some (.int .i64 x109001_1) := (blk_cell BK108.out 1).trans rfl; have hfz27_0 := blk_frozen BK108.out 0; have hfz27_1 := blk_frozen BK108.out 1))
         have n0_ : Aside0 (Kd.R k38 38 (w25.setCell ⟨gb108, 0, none⟩ (.int .i64 t116)) w.heap.size (fun k_ => k_ ≠ gb108) u5 x5_1) := ⟨by (zq39_4); exact Kd.R_mono (Kd.R_far (p := ⟨gb108, 0, none⟩) (Kd.R_mono HO_5.out (fun k_ hk => (⟨hk, hk⟩ : _ ∧ k_ ≠ gb108))) (fun _ hk => hk.2) (.int .i64 t116)) (fun _ hk => hk.1)⟩
         have n1_ : Aside0 ((w25.setCell ⟨gb108, 0, none⟩ (.int .i64 t116)).heap[gb108]? = some (.cells #[.int .i64 t116, .int .i64 x109001_1] 38 (0, 0))) := ⟨by (zq39_1); refine blk_put (cs := #[.int .i64 x109000_1, .int .i64 x109001_1]) ?_ 0 _ rfl; (zq39_1); exact BK108.out⟩
         have n2_ : Aside0 (IsS57 w (w25.setCell ⟨gb108, 0, none⟩ (.int .i64 t116)) g103 t101 t117) := ⟨by repeat (first | (with_reducible first | exact HI103.out | apply IsS57.alloc | apply IsS57.drewN | apply IsS57.drew | apply IsS57.set_1 | refine IsS57.far ?_ NB103_108.out _) | exact HI103.out)⟩
         have n3_ : Aside0 (Below w.heap.size w (w25.setCell ⟨gb108, 0, none⟩ (.int .i64 t116))) := ⟨by repeat (first | (with_reducible first | exact HB.out | apply below_alloc | apply pw_below_drewN | apply below_drew1 | refine below_set ?_ (IsS57.ge HI103.out) | refine below_set ?_ GE108.out) | exact HB.out)⟩
         (try clear HO_5)
         (try clear BK108)
         (try clear HI103)
         (try clear HB)
         generalize (w25.setCell ⟨gb108, 0, none⟩ (.int .i64 t116)) = w28 at n0_ n1_ n2_ n3_ ⊢
         have HO_5 := n0_
         have BK108 := n1_
         have HI103 := n2_
         have HB := n3_
         clear n0_ n1_ n2_ n3_
         have n0_ := Aside0.mk (Kd.R_drew HO_5.out)
         have n1_ := Aside0.mk (blk_drew BK108.out)
         have n2_ := Aside0.mk (IsS57.drew HI103.out)
         have n3_ := Aside0.mk (below_drew1 HB.out)
         clear HO_5
         clear BK108
         clear HI103
         clear HB
         have HO_5 := n0_
         have BK108 := n1_
         have HI103 := n2_
         have HB := n3_
         clear n0_ n1_ n2_ n3_
         obtain ⟨Ao30, co30, eo30⟩ := Kd.R_slice HO_5.out
         (first | subst eo30 | (injection eo30 with f1_ f2_ f3_; have f4_ := f1_.symm; have f5_ := f3_.symm; clear f1_ f2_ f3_; subst f4_; subst f5_))
         have p118 : 0 ≤ ((ji19) : Int) := of_decide_eq_true zq39_10
         have q118 : (ji19) < (x5_1.length : Int) := of_decide_eq_true zq39_10
         obtain ⟨ad118, e118, hx118_0, hx118_1⟩ := at_T38 (Kd.R_reads' HO_5.out).2.2 (ji19) p118 q118
         cases e118
         replace p118 := eq_true p118
         replace q118 := eq_true q118
         refine start_ (n := 13) (S := fun w' => w'.cell? ⟨gb108, 0, none⟩ = some (.int .i64 t116) ∧ w'.cell? ⟨gb108, 1, none⟩ = some (.int .i64 x109001_1) ∧ w'.cell? (ad118.add (((ji19)).toNat * 2)) = some (.int .i64 ((rd_T38 x5_1 (ji19)).f0)) ∧ w'.cell? ⟨(ad118.add (((ji19)).toNat * 2)).block, (ad118.add (((ji19)).toNat * 2)).off + 1, none⟩ = some (.int .i64 ((rd_T38 x5_1 (ji19)).f1))) (ds := []) #[false, false, false, false, false, false, false, false, false, false, false, false, false] (by kernel_rfl) rfl rfl ⟨(blk_cell BK108.out 0).trans rfl, (blk_cell BK108.out 1).trans rfl, hx118_0, hx118_1⟩ (fun hHeld => ?_); refine with_tabW spec_DrawCodeStay.tab10 spec_DrawCodeStay.bits10 (fun HT_ HW_ => ?_)
         generalize w28.drew = w29 at HO_5 BK108 HI103 HB hx118_0 hx118_1 hHeld ⊢
         refine pure_ (i := 1) (N := some 32) (v := ?_) (a' := ?_) #[false, true, false, false, false, false, false, false, false, false, false, false, false] rfl rfl (any_of HT_.out (by kernel_rfl)) (fun _ _ _ h => h) (Or.inl ⟨by rfl, ?_⟩) ?_ ?_
         rotate_left
         ·intro w'
          go_simp
          with_reducible rfl
         rotate_left
         ·simp only [Act.put, List.setIfInBounds_toArray, List.set_cons_zero, List.set_cons_succ, i64_w, i32_w]
          rfl
         refine pure_ (i := 2) (N := some 33) (v := ?_) (a' := ?_) #[false, true, true, false, false, false, false, false, false, false, false, false, false] rfl rfl (any_of HT_.out (by kernel_rfl)) (fun _ _ _ h => h) (Or.inl ⟨by rfl, ?_⟩) ?_ ?_
         rotate_left
         ·intro w'
          go_simp
          with_reducible rfl
         rotate_left
         ·simp only [Act.put, List.setIfInBounds_toArray, List.set_cons_zero, List.set_cons_succ, i64_w, i32_w]
          rfl
         refine pure_ (i := 3) (N := some 34) (v := ?_) (a' := ?_) #[false, true, true, true, false, false, false, false, false, false, false, false, false] rfl rfl (any_of HT_.out (by kernel_rfl)) (fun _ _ _ h => h) (Or.inl ⟨by rfl, ?_⟩) ?_ ?_
         rotate_left
         ·intro w'
          go_simp
          with_reducible rfl
         rotate_left
         ·simp only [Act.put, List.setIfInBounds_toArray, List.set_cons_zero, List.set_cons_succ, i64_w, i32_w]
          rfl
         refine pure_ (i := 4) (N := some 35) (v := ?_) (a' := ?_) #[false, true, true, true, true, false, false, false, false, false, false, false, false] rfl rfl (any_of HT_.out (by kernel_rfl)) (fun _ _ _ h => h) (Or.inl ⟨by rfl, ?_⟩) ?_ ?_
         rotate_left
         ·intro w'
          go_simp
          with_reducible rfl
         rotate_left
         ·simp only [Act.put, List.setIfInBounds_toArray, List.set_cons_zero, List.set_cons_succ, i64_w, i32_w]
          rfl
         refine pure_ (i := 5) (N := some 36) (v := ?_) (a' := ?_) #[false, true, true, true, true, true, false, false, false, false, false, false, false] rfl rfl (any_of HT_.out (by kernel_rfl)) (fun _ _ _ h => h) (Or.inl ⟨by rfl, ?_⟩) ?_ ?_
         rotate_left
         ·intro w'
          go_simp
          with_reducible rfl
         rotate_left
         ·simp only [Act.put, List.setIfInBounds_toArray, List.set_cons_zero, List.set_cons_succ, i64_w, i32_w]
          rfl
         refine take_ (i := 0) (N := some 31) (v := ?_) (a' := ?_) #[true, true, true, true, true, true, false, false, false, false, false, false, false] rfl rfl (take_ofW HT_.out HW_.out (by kernel_rfl)) (fun _ _ _ h => h) (Or.inl ⟨by rfl, ?_⟩) hHeld ?_ ?_
         rotate_left
         ·rintro w' ⟨s0, s1, s2, s3⟩
          go_simp
          with_reducible rfl
         rotate_left
         ·simp only [Act.put, List.setIfInBounds_toArray, List.set_cons_zero, List.set_cons_succ, i64_w, i32_w]
          rfl
         refine take_ (i := 6) (N := some 37) (v := ?_) (a' := ?_) #[true, true, true, true, true, true, true, false, false, false, false, false, false] rfl rfl (take_ofW HT_.out HW_.out (by kernel_rfl)) (fun _ _ _ h => h) (Or.inl ⟨by rfl, ?_⟩) hHeld ?_ ?_
         rotate_left
         ·rintro w' ⟨s0, s1, s2, s3⟩
          go_simp
          with_reducible rfl
         rotate_left
         ·simp only [Act.put, List.setIfInBounds_toArray, List.set_cons_zero, List.set_cons_succ, i64_w, i32_w]
          rfl
         refine pure_ (i := 7) (N := some 38) (v := ?_) (a' := ?_) #[true, true, true, true, true, true, true, true, false, false, false, false, false] rfl rfl (any_of HT_.out (by kernel_rfl)) (fun _ _ _ h => h) (Or.inl ⟨by rfl, ?_⟩) ?_ ?_
         rotate_left
         ·intro w'
          go_simp
          with_reducible rfl
         rotate_left
         ·simp only [Act.put, List.setIfInBounds_toArray, List.set_cons_zero, List.set_cons_succ, i64_w, i32_w]
          rfl
         refine pure_ (i := 8) (N := some 39) (v := ?_) (a' := ?_) #[true, true, true, true, true, true, true, true, true, false, false, false, false] rfl rfl (any_of HT_.out (by kernel_rfl)) (fun _ _ _ h => h) (Or.inl ⟨by rfl, ?_⟩) ?_ ?_
         rotate_left
         ·intro w'
          go_simp
          with_reducible rfl
         rotate_left
         ·simp only [Act.put, List.setIfInBounds_toArray, List.set_cons_zero, List.set_cons_succ, i64_w, i32_w]
          rfl
         refine pure_ (i := 9) (N := some 40) (v := undef) (a' := ?_) #[true, true, true, true, true, true, true, true, true, true, false, false, false] rfl rfl (any_of HT_.out (by kernel_rfl)) (fun _ _ _ h => h) (Or.inr ⟨by rfl, rfl⟩) ?_ ?_
         rotate_left
         ·simp only [Act.put, List.setIfInBounds_toArray, List.set_cons_zero, List.set_cons_succ, i64_w, i32_w]
          rfl
         refine pure_ (i := 10) (N := some 41) (v := undef) (a' := ?_) #[true, true, true, true, true, true, true, true, true, true, true, false, false] rfl rfl (any_of HT_.out (by kernel_rfl)) (fun _ _ _ h => h) (Or.inr ⟨by rfl, rfl⟩) ?_ ?_
         rotate_left
         ·simp only [Act.put, List.setIfInBounds_toArray, List.set_cons_zero, List.set_cons_succ, i64_w, i32_w]
          rfl
         refine pure_ (i := 11) (N := some 42) (v := undef) (a' := ?_) #[true, true, true, true, true, true, true, true, true, true, true, true, false] rfl rfl (any_of HT_.out (by kernel_rfl)) (fun _ _ _ h => h) (Or.inr ⟨by rfl, rfl⟩) ?_ ?_
         rotate_left
         ·simp only [Act.put, List.setIfInBounds_toArray, List.set_cons_zero, List.set_cons_succ, i64_w, i32_w]
          rfl
         refine pure_ (i := 12) (N := some 43) (v := ?_) (a' := ?_) #[true, true, true, true, true, true, true, true, true, true, true, true, true] rfl rfl (any_of HT_.out (by kernel_rfl)) (fun _ _ _ h => h) (Or.inl ⟨by rfl, ?_⟩) ?_ ?_
         rotate_left
         ·intro w'
          go_simp
          with_reducible rfl
         rotate_left
         ·simp only [Act.put, List.setIfInBounds_toArray, List.set_cons_zero, List.set_cons_succ, i64_w, i32_w]
          rfl
         refine done_ (done_of HT_.out (by kernel_rfl)) ?_
         have hcz31_0 : w29.cell? ⟨gb108, 0, none⟩ = some (.int .i64 t116) := (blk_cell BK108.out 0).trans rfl
         have hcz31_1 : w29.cell? ⟨gb108, 1, none⟩ = some (.int .i64 x109001_1) := (blk_cell BK108.out 1).trans rfl
         have hfz31_0 := blk_frozen BK108.out 0
         have hfz31_1 := blk_frozen BK108.out 1
         try go_wp2_with (first | ((with_reducible refine gate_builtin (b := .append) (xs := #[.tmp 44, .tmp 46]) rfl ?_); at_builtin; refine Kd.R_append k38 (w0 := w) w.heap.size rfl (.tmp 44) (.tmp 46) 24 38 (.agg #[(.int .i64 0), (.int .i64 0)]) 16 rfl Try.underlying24 info38 rfl (by decide) (by omega) (.slice (some ad118) x5_1.length co30) x5_1 (⟨t116, x109001_1⟩ : S38) [.int .i64 t116, .int .i64 x109001_1] (fun k_ => k_ ≠ gb108) (fun _ => False) rfl rfl ?aP (fun _ hk => hk.elim) ?aF ?aO ?aB ?aS ?aL ?_; (case aP => exact k38_mkM _ _ _ (⟨t116, x109001_1⟩ : S38)); (case aB => exact zq39_6); (case aF => exact (fun k_ hk => Kd.freshB (g := gb108) (o := .cells #[.int .i64 t116, .int .i64 x109001_1] 38 (0, 0)) (by (zq39_1); exact BK108.out) k_ hk)); (zq39_17); (case aS => exact (below_size zq39_6)); (case aL => have := LMc23.out; omega); intro v120 w32 ho hb hg hat; rw [← Ny119.out] at ho; have n0_ := Aside0.mk (blk_grown (g := gb108) (o := .cells #[.int .i64 t116, .int .i64 x109001_1] 38 (0, 0)) (by (zq39_1); exact BK108.out) hg (Kd.R_away HO_5.out (fun _ hk => hk))); have n1_ := Aside0.mk (IsS57.grown zq39_8 hg (IsS57.own_ne HI103.out HO_5.out (by decide))); have n2_ := Aside0.mk (hb); have n3_ := Aside0.mk (ho); clear BK108; clear HI103; clear HB; clear HO_5; have BK108 := n0_; have HI103 := n1_; have HB := n2_; have HO121 := n3_; clear n0_ n1_ n2_ n3_; clear ho hb hg hat))
         go_roundg k1
         case measure => have := HK1.out; omega
         case rel => exact ⟨(y119), (wrap64 (x6_1 - 1)), (t117), (t116), (x109001_1), zq39_12, H', ⟨by have := HK1.out; omega⟩, ⟨by (zq39_4); exact HO121.out⟩, ⟨by (zq39_1); exact BK108.out⟩, ⟨by repeat (first | (with_reducible first | exact HI103.out | apply IsS57.alloc | apply IsS57.drewN | apply IsS57.drew | apply IsS57.set_1 | refine IsS57.far ?_ NB103_108.out _) | exact HI103.out)⟩, ⟨by repeat (first | (with_reducible first | exact HB.out | apply below_alloc | apply pw_below_drewN | apply below_drew1 | refine below_set ?_ (IsS57.ge HI103.out) | refine below_set ?_ GE108.out) | exact HB.out)⟩⟩
        ·rw [if_neg c23] at H
         exact absurd H (by simp)
       ·rw [if_neg c22] at H
        have c22b0 : (!(t116 == ((rd_T38 x5_1 (ji19)).f0)) || (!(x109001_1 == ((rd_T38 x5_1 (ji19)).f1)))) = false := by simpa using c22
        clear c22
        replace H := Option.bind_eq_some_iff.mp H
        obtain ⟨⟨t122, t123⟩, A330, H⟩ := H
        replace H : (if t122 = 0 then (if x5_1.length < 8796093022208 then (spec_DrawCodeStay.l0 k1 (x5_1 ++ [(⟨t116, x109001_1⟩ : S38)]) (wrap64 (x6_1 - 1)) t101 t123 t116 x109001_1) else (none)) else (spec_DrawCodeStay.l0 k1 x5_1 (wrap64 (x6_1 - 1)) t101 t123 t116 x109001_1)) = some r := H
        have A33 := Aside0.mk A330
        clear A330
        by_cases c34 : t122 = 0
        ·rw [if_pos c34] at H
         have c34b0 : (t122 == 0) = true := beq_iff_eq.mpr c34
         have c34b1 : (t122 != 0) = false := bne_eq_false_iff_eq.mpr c34
         clear c34
         by_cases c35 : x5_1.length < 8796093022208
         ·rw [if_pos c35] at H
          have LMc35 := Aside0.mk c35
          clear c35
          obtain ⟨y124, hy124⟩ : ∃ y_ : List (S38), y_ = (x5_1 ++ [(⟨t116, x109001_1⟩ : S38)]) := ⟨_, rfl⟩
          replace H : (spec_DrawCodeStay.l0 k1 y124 (wrap64 (x6_1 - 1)) t101 t123 t116 x109001_1) = some r := by first | (rw [hy124]; with_reducible exact H) | (have H2_ := (Option.bind_some _ _).symm.trans H; rw [hy124]; with_reducible exact H2_) | (have H2_ := (Option.bind_some _ _).symm.trans H; with_reducible exact H2_) | with_reducible exact H | (rw [hy124]; exact H) | exact H
          have Ny124 := Aside0.mk hy124
          clear hy124
          have H' := Aside0.mk H
          clear H
          try go_wp2_with (first | ((with_reducible refine gate_callee (f := 38) rfl ?_); refine goesL_ (some 23) rfl rfl Try.func38 (by kernel_rfl) rfl #[.pointer (some ⟨g103, 0, none⟩), .int .i64 2] rfl zq39_5 ?_; (zq39_9); (zq39_3); (zq39_2); rintro e w36 ⟨rfl, hi, hb, hk⟩; refine ⟨_, rfl, ?_⟩; have n0_ := Aside0.mk (Kd.R_mono (Kd.R_keep (IsS57.apart (show IsS57 w _ g103 t101 x104001_1 from by repeat (first | (with_reducible first | exact HI103.out | apply IsS57.alloc | apply IsS57.drewN | apply IsS57.drew | apply IsS57.set_1 | refine IsS57.far ?_ NB103_108.out _) | exact HI103.out)) (by (zq39_4); exact HO_5.out) (by decide)) hk (fun _ h => h.2)) (fun _ h => h.1)); have n1_ := Aside0.mk (KeepBut.blk hk (g' := gb108) (o := .cells #[.int .i64 x109000_1, .int .i64 x109001_1] 38 (0, 0)) (by (zq39_1); exact BK108.out) NB108_103.out (by simp)); have n2_ := Aside0.mk (hb); have n3_ := Aside0.mk (hi); clear HO_5; clear BK108; clear HB; clear HI103; have HO_5 := n0_; have BK108 := n1_; have HB := n2_; have HI103 := n3_; clear n0_ n1_ n2_ n3_; (try clear hb); (try clear hb2); (try clear hk); (try clear hi)) | ((with_reducible refine gate_callee (f := 38) rfl ?_); refine goesL_ (some 26) rfl rfl Try.func38 (by kernel_rfl) rfl #[.pointer (some ⟨g103, 0, none⟩), .int .i64 10] rfl zq39_5 ?_; (zq39_13); (zq39_3); (zq39_2); rintro e w37 ⟨rfl, hi, hb, hk⟩; refine ⟨_, rfl, ?_⟩; have n0_ := Aside0.mk (Kd.R_mono (Kd.R_keep (IsS57.apart (show IsS57 w _ g103 t101 t115 from by repeat (first | (with_reducible first | exact HI103.out | apply IsS57.alloc | apply IsS57.drewN | apply IsS57.drew | apply IsS57.set_1 | refine IsS57.far ?_ NB103_108.out _) | exact HI103.out)) (by (zq39_4); exact HO_5.out) (by decide)) hk (fun _ h => h.2)) (fun _ h => h.1)); have n1_ := Aside0.mk (KeepBut.blk hk (g' := gb108) (o := .cells #[.int .i64 x109000_1, .int .i64 x109001_1] 38 (0, 0)) (by (zq39_1); exact BK108.out) NB108_103.out (by simp)); have n2_ := Aside0.mk (hb); have n3_ := Aside0.mk (hi); clear HO_5; clear BK108; clear HB; clear HI103; have HO_5 := n0_; have BK108 := n1_; have HB := n2_; have HI103 := n3_; clear n0_ n1_ n2_ n3_; (try clear hb); (try clear hb2); (try clear hk); (try clear hi); have hnb38 := NB108_103.out; have hnc38 := NB103_108.out; have hcz39_0 : w37.cell? ⟨gb108, 0, none⟩ = some (.int .i64 x109000_1) := (blk_cell BK108.out 0).trans rfl; have hcz39_1 : w37.cell? ⟨gb108, 1, none⟩ = some (.int .i64 x109001_1) := (blk_cell BK108.out 1).trans rfl; have hfz39_0 := blk_frozen BK108.out 0; have hfz39_1 := blk_frozen BK108.out 1))
          have n0_ : Aside0 (Kd.R k38 38 (w37.setCell ⟨gb108, 0, none⟩ (.int .i64 t116)) w.heap.size (fun k_ => k_ ≠ gb108) u5 x5_1) := ⟨by (zq39_4); exact Kd.R_mono (Kd.R_far (p := ⟨gb108, 0, none⟩) (Kd.R_mono HO_5.out (fun k_ hk => (⟨hk, hk⟩ : _ ∧ k_ ≠ gb108))) (fun _ hk => hk.2) (.int .i64 t116)) (fun _ hk => hk.1)⟩
          have n1_ : Aside0 ((w37.setCell ⟨gb108, 0, none⟩ (.int .i64 t116)).heap[gb108]? = some (.cells #[.int .i64 t116, .int .i64 x109001_1] 38 (0, 0))) := ⟨by (zq39_1); refine blk_put (cs := #[.int .i64 x109000_1, .int .i64 x109001_1]) ?_ 0 _ rfl; (zq39_1); exact BK108.out⟩
          have n2_ : Aside0 (IsS57 w (w37.setCell ⟨gb108, 0, none⟩ (.int .i64 t116)) g103 t101 t117) := ⟨by repeat (first | (with_reducible first | exact HI103.out | apply IsS57.alloc | apply IsS57.drewN | apply IsS57.drew | apply IsS57.set_1 | refine IsS57.far ?_ NB103_108.out _) | exact HI103.out)⟩
          have n3_ : Aside0 (Below w.heap.size w (w37.setCell ⟨gb108, 0, none⟩ (.int .i64 t116))) := ⟨by repeat (first | (with_reducible first | exact HB.out | apply below_alloc | apply pw_below_drewN | apply below_drew1 | refine below_set ?_ (IsS57.ge HI103.out) | refine below_set ?_ GE108.out) | exact HB.out)⟩
          (try clear HO_5)
          (try clear BK108)
          (try clear HI103)
          (try clear HB)
          generalize (w37.setCell ⟨gb108, 0, none⟩ (.int .i64 t116)) = w40 at n0_ n1_ n2_ n3_ ⊢
          have HO_5 := n0_
          have BK108 := n1_
          have HI103 := n2_
          have HB := n3_
          clear n0_ n1_ n2_ n3_
          have n0_ := Aside0.mk (Kd.R_drew HO_5.out)
          have n1_ := Aside0.mk (blk_drew BK108.out)
          have n2_ := Aside0.mk (IsS57.drew HI103.out)
          have n3_ := Aside0.mk (below_drew1 HB.out)
          clear HO_5
          clear BK108
          clear HI103
          clear HB
          have HO_5 := n0_
          have BK108 := n1_
          have HI103 := n2_
          have HB := n3_
          clear n0_ n1_ n2_ n3_
          obtain ⟨Ao42, co42, eo42⟩ := Kd.R_slice HO_5.out
          (first | subst eo42 | (injection eo42 with f1_ f2_ f3_; have f4_ := f1_.symm; have f5_ := f3_.symm; clear f1_ f2_ f3_; subst f4_; subst f5_))
          have p118 : 0 ≤ ((ji19) : Int) := of_decide_eq_true zq39_10
          have q118 : (ji19) < (x5_1.length : Int) := of_decide_eq_true zq39_10
          obtain ⟨ad118, e118, hx118_0, hx118_1⟩ := at_T38 (Kd.R_reads' HO_5.out).2.2 (ji19) p118 q118
          cases e118
          replace p118 := eq_true p118
          replace q118 := eq_true q118
          refine start_ (n := 13) (S := fun w' => w'.cell? ⟨gb108, 0, none⟩ = some (.int .i64 t116) ∧ w'.cell? ⟨gb108, 1, none⟩ = some (.int .i64 x109001_1) ∧ w'.cell? (ad118.add (((ji19)).toNat * 2)) = some (.int .i64 ((rd_T38 x5_1 (ji19)).f0)) ∧ w'.cell? ⟨(ad118.add (((ji19)).toNat * 2)).block, (ad118.add (((ji19)).toNat * 2)).off + 1, none⟩ = some (.int .i64 ((rd_T38 x5_1 (ji19)).f1))) (ds := []) #[false, false, false, false, false, false, false, false, false, false, false, false, false] (by kernel_rfl) rfl rfl ⟨(blk_cell BK108.out 0).trans rfl, (blk_cell BK108.out 1).trans rfl, hx118_0, hx118_1⟩ (fun hHeld => ?_); refine with_tabW spec_DrawCodeStay.tab10 spec_DrawCodeStay.bits10 (fun HT_ HW_ => ?_)
          generalize w40.drew = w41 at HO_5 BK108 HI103 HB hx118_0 hx118_1 hHeld ⊢
          refine pure_ (i := 1) (N := some 32) (v := ?_) (a' := ?_) #[false, true, false, false, false, false, false, false, false, false, false, false, false] rfl rfl (any_of HT_.out (by kernel_rfl)) (fun _ _ _ h => h) (Or.inl ⟨by rfl, ?_⟩) ?_ ?_
          rotate_left
          ·intro w'
           go_simp
           with_reducible rfl
          rotate_left
          ·simp only [Act.put, List.setIfInBounds_toArray, List.set_cons_zero, List.set_cons_succ, i64_w, i32_w]
           rfl
          refine pure_ (i := 2) (N := some 33) (v := ?_) (a' := ?_) #[false, true, true, false, false, false, false, false, false, false, false, false, false] rfl rfl (any_of HT_.out (by kernel_rfl)) (fun _ _ _ h => h) (Or.inl ⟨by rfl, ?_⟩) ?_ ?_
          rotate_left
          ·intro w'
           go_simp
           with_reducible rfl
          rotate_left
          ·simp only [Act.put, List.setIfInBounds_toArray, List.set_cons_zero, List.set_cons_succ, i64_w, i32_w]
           rfl
          refine pure_ (i := 3) (N := some 34) (v := ?_) (a' := ?_) #[false, true, true, true, false, false, false, false, false, false, false, false, false] rfl rfl (any_of HT_.out (by kernel_rfl)) (fun _ _ _ h => h) (Or.inl ⟨by rfl, ?_⟩) ?_ ?_
          rotate_left
          ·intro w'
           go_simp
           with_reducible rfl
          rotate_left
          ·simp only [Act.put, List.setIfInBounds_toArray, List.set_cons_zero, List.set_cons_succ, i64_w, i32_w]
           rfl
          refine pure_ (i := 4) (N := some 35) (v := ?_) (a' := ?_) #[false, true, true, true, true, false, false, false, false, false, false, false, false] rfl rfl (any_of HT_.out (by kernel_rfl)) (fun _ _ _ h => h) (Or.inl ⟨by rfl, ?_⟩) ?_ ?_
          rotate_left
          ·intro w'
           go_simp
           with_reducible rfl
          rotate_left
          ·simp only [Act.put, List.setIfInBounds_toArray, List.set_cons_zero, List.set_cons_succ, i64_w, i32_w]
           rfl
          refine pure_ (i := 5) (N := some 36) (v := ?_) (a' := ?_) #[false, true, true, true, true, true, false, false, false, false, false, false, false] rfl rfl (any_of HT_.out (by kernel_rfl)) (fun _ _ _ h => h) (Or.inl ⟨by rfl, ?_⟩) ?_ ?_
          rotate_left
          ·intro w'
           go_simp
           with_reducible rfl
          rotate_left
          ·simp only [Act.put, List.setIfInBounds_toArray, List.set_cons_zero, List.set_cons_succ, i64_w, i32_w]
           rfl
          refine take_ (i := 0) (N := some 31) (v := ?_) (a' := ?_) #[true, true, true, true, true, true, false, false, false, false, false, false, false] rfl rfl (take_ofW HT_.out HW_.out (by kernel_rfl)) (fun _ _ _ h => h) (Or.inl ⟨by rfl, ?_⟩) hHeld ?_ ?_
          rotate_left
          ·rintro w' ⟨s0, s1, s2, s3⟩
           go_simp
           with_reducible rfl
          rotate_left
          ·simp only [Act.put, List.setIfInBounds_toArray, List.set_cons_zero, List.set_cons_succ, i64_w, i32_w]
           rfl
          refine take_ (i := 6) (N := some 37) (v := ?_) (a' := ?_) #[true, true, true, true, true, true, true, false, false, false, false, false, false] rfl rfl (take_ofW HT_.out HW_.out (by kernel_rfl)) (fun _ _ _ h => h) (Or.inl ⟨by rfl, ?_⟩) hHeld ?_ ?_
          rotate_left
          ·rintro w' ⟨s0, s1, s2, s3⟩
           go_simp
           with_reducible rfl
          rotate_left
          ·simp only [Act.put, List.setIfInBounds_toArray, List.set_cons_zero, List.set_cons_succ, i64_w, i32_w]
           rfl
          refine pure_ (i := 7) (N := some 38) (v := ?_) (a' := ?_) #[true, true, true, true, true, true, true, true, false, false, false, false, false] rfl rfl (any_of HT_.out (by kernel_rfl)) (fun _ _ _ h => h) (Or.inl ⟨by rfl, ?_⟩) ?_ ?_
          rotate_left
          ·intro w'
           go_simp
           with_reducible rfl
          rotate_left
          ·simp only [Act.put, List.setIfInBounds_toArray, List.set_cons_zero, List.set_cons_succ, i64_w, i32_w]
           rfl
          refine pure_ (i := 8) (N := some 39) (v := ?_) (a' := ?_) #[true, true, true, true, true, true, true, true, true, false, false, false, false] rfl rfl (any_of HT_.out (by kernel_rfl)) (fun _ _ _ h => h) (Or.inl ⟨by rfl, ?_⟩) ?_ ?_
          rotate_left
          ·intro w'
           go_simp
           with_reducible rfl
          rotate_left
          ·simp only [Act.put, List.setIfInBounds_toArray, List.set_cons_zero, List.set_cons_succ, i64_w, i32_w]
           rfl
          refine pure_ (i := 9) (N := some 40) (v := ?_) (a' := ?_) #[true, true, true, true, true, true, true, true, true, true, false, false, false] rfl rfl (any_of HT_.out (by kernel_rfl)) (fun _ _ _ h => h) (Or.inl ⟨by rfl, ?_⟩) ?_ ?_
          rotate_left
          ·intro w'
           go_simp
           with_reducible rfl
          rotate_left
          ·simp only [Act.put, List.setIfInBounds_toArray, List.set_cons_zero, List.set_cons_succ, i64_w, i32_w]
           rfl
          refine one_ (i := 10) (N := some 41) #[true, true, true, true, true, true, true, true, true, true, true, false, false] rfl rfl (one_of HT_.out (by kernel_rfl)) (by decide) (fun K hK => ?_)
          refine goes_ Try.func38 (by kernel_rfl) rfl #[.pointer (some ⟨g103, 0, none⟩), .int .i64 20] (by rfl) rfl rfl zq39_5 ?_
          with_reducible refine (spec_l6Rd_pick.calls k1 g103 t101 t117 20 t122 t123 w _ ?side1 ?side2 A33.out).mono ?_
          (zq39_3)
          (zq39_2)
          rintro e w43 ⟨rfl, hi, hb, hk⟩
          have HS2_ := keep_cell hk (hHeld.2.2.1) zq39_7
          have HS3_ := keep_cell hk (hHeld.2.2.2) zq39_7
          refine ⟨_, rfl, ?_⟩
          have n0_ := Aside0.mk (Kd.R_mono (Kd.R_keep (IsS57.apart (show IsS57 w _ g103 t101 t117 from by repeat (first | (with_reducible first | exact HI103.out | apply IsS57.alloc | apply IsS57.drewN | apply IsS57.drew | apply IsS57.set_1 | refine IsS57.far ?_ NB103_108.out _) | exact HI103.out)) (by (zq39_4); exact HO_5.out) (by decide)) hk (fun _ h => h.2)) (fun _ h => h.1))
          have n1_ := Aside0.mk (KeepBut.blk hk (g' := gb108) (o := .cells #[.int .i64 t116, .int .i64 x109001_1] 38 (0, 0)) (by (zq39_1); exact BK108.out) NB108_103.out (by simp))
          have n2_ := Aside0.mk (hb)
          have n3_ := Aside0.mk (hi)
          clear HO_5
          clear BK108
          clear HB
          clear HI103
          have HO_5 := n0_
          have BK108 := n1_
          have HB := n2_
          have HI103 := n3_
          clear n0_ n1_ n2_ n3_
          (try clear hb)
          (try clear hb2)
          (try clear hk)
          (try clear hi)
          refine hK.out _ _ ⟨(blk_cell BK108.out 0).trans rfl, (blk_cell BK108.out 1).trans rfl, HS2_, HS3_⟩ (fun hHeld => ?_)
          clear hK K
          refine norm_ (a' := ?_) ?_ ?_
          rotate_left
          ·show Act.put _ (some 41) _ = _
           simp only [Act.put, List.setIfInBounds_toArray, List.set_cons_zero, List.set_cons_succ, i64_w, i32_w]
           rfl
          refine pure_ (i := 11) (N := some 42) (v := ?_) (a' := ?_) #[true, true, true, true, true, true, true, true, true, true, true, true, false] rfl rfl (any_of HT_.out (by kernel_rfl)) (fun _ _ _ h => h) (Or.inl ⟨by rfl, ?_⟩) ?_ ?_
          rotate_left
          ·intro w'
           go_simp
           with_reducible rfl
          rotate_left
          ·simp only [Act.put, List.setIfInBounds_toArray, List.set_cons_zero, List.set_cons_succ, i64_w, i32_w]
           rfl
          refine pure_ (i := 12) (N := some 43) (v := ?_) (a' := ?_) #[true, true, true, true, true, true, true, true, true, true, true, true, true] rfl rfl (any_of HT_.out (by kernel_rfl)) (fun _ _ _ h => h) (Or.inl ⟨by rfl, ?_⟩) ?_ ?_
          rotate_left
          ·intro w'
           go_simp
           with_reducible rfl
          rotate_left
          ·simp only [Act.put, List.setIfInBounds_toArray, List.set_cons_zero, List.set_cons_succ, i64_w, i32_w]
           rfl
          refine done_ (done_of HT_.out (by kernel_rfl)) ?_
          have hcz44_0 : w43.cell? ⟨gb108, 0, none⟩ = some (.int .i64 t116) := (blk_cell BK108.out 0).trans rfl
          have hcz44_1 : w43.cell? ⟨gb108, 1, none⟩ = some (.int .i64 x109001_1) := (blk_cell BK108.out 1).trans rfl
          have hfz44_0 := blk_frozen BK108.out 0
          have hfz44_1 := blk_frozen BK108.out 1
          try go_wp2_with (first | ((with_reducible refine gate_builtin (b := .append) (xs := #[.tmp 44, .tmp 46]) rfl ?_); at_builtin; refine Kd.R_append k38 (w0 := w) w.heap.size rfl (.tmp 44) (.tmp 46) 24 38 (.agg #[(.int .i64 0), (.int .i64 0)]) 16 rfl Try.underlying24 info38 rfl (by decide) (by omega) (.slice (some ad118) x5_1.length co42) x5_1 (⟨t116, x109001_1⟩ : S38) [.int .i64 t116, .int .i64 x109001_1] (fun k_ => k_ ≠ gb108) (fun _ => False) rfl rfl ?aP (fun _ hk => hk.elim) ?aF ?aO ?aB ?aS ?aL ?_; (case aP => exact k38_mkM _ _ _ (⟨t116, x109001_1⟩ : S38)); (case aB => exact zq39_6); (case aF => exact (fun k_ hk => Kd.freshB (g := gb108) (o := .cells #[.int .i64 t116, .int .i64 x109001_1] 38 (0, 0)) (by (zq39_1); exact BK108.out) k_ hk)); (zq39_17); (case aS => exact (below_size zq39_6)); (case aL => have := LMc35.out; omega); intro v125 w45 ho hb hg hat; rw [← Ny124.out] at ho; have n0_ := Aside0.mk (blk_grown (g := gb108) (o := .cells #[.int .i64 t116, .int .i64 x109001_1] 38 (0, 0)) (by (zq39_1); exact BK108.out) hg (Kd.R_away HO_5.out (fun _ hk => hk))); have n1_ := Aside0.mk (IsS57.grown zq39_8 hg (IsS57.own_ne HI103.out HO_5.out (by decide))); have n2_ := Aside0.mk (hb); have n3_ := Aside0.mk (ho); clear BK108; clear HI103; clear HB; clear HO_5; have BK108 := n0_; have HI103 := n1_; have HB := n2_; have HO126 := n3_; clear n0_ n1_ n2_ n3_; clear ho hb hg hat))
          go_roundg k1
          case measure => have := HK1.out; omega
          case rel => exact ⟨(y124), (wrap64 (x6_1 - 1)), (t123), (t116), (x109001_1), zq39_12, H', ⟨by have := HK1.out; omega⟩, ⟨by (zq39_4); exact HO126.out⟩, ⟨by (zq39_1); exact BK108.out⟩, ⟨by repeat (first | (with_reducible first | exact HI103.out | apply IsS57.alloc | apply IsS57.drewN | apply IsS57.drew | apply IsS57.set_1 | refine IsS57.far ?_ NB103_108.out _) | exact HI103.out)⟩, ⟨by repeat (first | (with_reducible first | exact HB.out | apply below_alloc | apply pw_below_drewN | apply below_drew1 | refine below_set ?_ (IsS57.ge HI103.out) | refine below_set ?_ GE108.out) | exact HB.out)⟩⟩
         ·rw [if_neg c35] at H
          exact absurd H (by simp)
        ·rw [if_neg c34] at H
         have c34b0 : (t122 == 0) = false := beq_eq_false_iff_ne.mpr c34
         have c34b1 : (t122 != 0) = true := bne_iff_ne.mpr c34
         have H' := Aside0.mk H
         clear H
         try go_wp2_with (first | ((with_reducible refine gate_callee (f := 38) rfl ?_); refine goesL_ (some 23) rfl rfl Try.func38 (by kernel_rfl) rfl #[.pointer (some ⟨g103, 0, none⟩), .int .i64 2] rfl zq39_5 ?_; (zq39_9); (zq39_3); (zq39_2); rintro e w46 ⟨rfl, hi, hb, hk⟩; refine ⟨_, rfl, ?_⟩; have n0_ := Aside0.mk (Kd.R_mono (Kd.R_keep (IsS57.apart (show IsS57 w _ g103 t101 x104001_1 from by repeat (first | (with_reducible first | exact HI103.out | apply IsS57.alloc | apply IsS57.drewN | apply IsS57.drew | apply IsS57.set_1 | refine IsS57.far ?_ NB103_108.out _) | exact HI103.out)) (by (zq39_4); exact HO_5.out) (by decide)) hk (fun _ h => h.2)) (fun _ h => h.1)); have n1_ := Aside0.mk (KeepBut.blk hk (g' := gb108) (o := .cells #[.int .i64 x109000_1, .int .i64 x109001_1] 38 (0, 0)) (by (zq39_1); exact BK108.out) NB108_103.out (by simp)); have n2_ := Aside0.mk (hb); have n3_ := Aside0.mk (hi); clear HO_5; clear BK108; clear HB; clear HI103; have HO_5 := n0_; have BK108 := n1_; have HB := n2_; have HI103 := n3_; clear n0_ n1_ n2_ n3_; (try clear hb); (try clear hb2); (try clear hk); (try clear hi)) | ((with_reducible refine gate_callee (f := 38) rfl ?_); refine goesL_ (some 26) rfl rfl Try.func38 (by kernel_rfl) rfl #[.pointer (some ⟨g103, 0, none⟩), .int .i64 10] rfl zq39_5 ?_; (zq39_13); (zq39_3); (zq39_2); rintro e w47 ⟨rfl, hi, hb, hk⟩; refine ⟨_, rfl, ?_⟩; have n0_ := Aside0.mk (Kd.R_mono (Kd.R_keep (IsS57.apart (show IsS57 w _ g103 t101 t115 from by repeat (first | (with_reducible first | exact HI103.out | apply IsS57.alloc | apply IsS57.drewN | apply IsS57.drew | apply IsS57.set_1 | refine IsS57.far ?_ NB103_108.out _) | exact HI103.out)) (by (zq39_4); exact HO_5.out) (by decide)) hk (fun _ h => h.2)) (fun _ h => h.1)); have n1_ := Aside0.mk (KeepBut.blk hk (g' := gb108) (o := .cells #[.int .i64 x109000_1, .int .i64 x109001_1] 38 (0, 0)) (by (zq39_1); exact BK108.out) NB108_103.out (by simp)); have n2_ := Aside0.mk (hb); have n3_ := Aside0.mk (hi); clear HO_5; clear BK108; clear HB; clear HI103; have HO_5 := n0_; have BK108 := n1_; have HB := n2_; have HI103 := n3_; clear n0_ n1_ n2_ n3_; (try clear hb); (try clear hb2); (try clear hk); (try clear hi); have hnb48 := NB108_103.out; have hnc48 := NB103_108.out; have hcz49_0 : w47.cell? ⟨gb108, 0, none⟩ = some (.int .i64 x109000_1) := (blk_cell BK108.out 0).trans rfl; have hcz49_1 : w47.cell? ⟨gb108, 1, none⟩ = some (.int .i64 x109001_1) := (blk_cell BK108.out 1).trans rfl; have hfz49_0 := blk_frozen BK108.out 0; have hfz49_1 := blk_frozen BK108.out 1))
         have n0_ : Aside0 (Kd.R k38 38 (w47.setCell ⟨gb108, 0, none⟩ (.int .i64 t116)) w.heap.size (fun k_ => k_ ≠ gb108) u5 x5_1) := ⟨by (zq39_4); exact Kd.R_mono (Kd.R_far (p := ⟨gb108, 0, none⟩) (Kd.R_mono HO_5.out (fun k_ hk => (⟨hk, hk⟩ : _ ∧ k_ ≠ gb108))) (fun _ hk => hk.2) (.int .i64 t116)) (fun _ hk => hk.1)⟩
         have n1_ : Aside0 ((w47.setCell ⟨gb108, 0, none⟩ (.int .i64 t116)).heap[gb108]? = some (.cells #[.int .i64 t116, .int .i64 x109001_1] 38 (0, 0))) := ⟨by (zq39_1); refine blk_put (cs := #[.int .i64 x109000_1, .int .i64 x109001_1]) ?_ 0 _ rfl; (zq39_1); exact BK108.out⟩
         have n2_ : Aside0 (IsS57 w (w47.setCell ⟨gb108, 0, none⟩ (.int .i64 t116)) g103 t101 t117) := ⟨by repeat (first | (with_reducible first | exact HI103.out | apply IsS57.alloc | apply IsS57.drewN | apply IsS57.drew | apply IsS57.set_1 | refine IsS57.far ?_ NB103_108.out _) | exact HI103.out)⟩
         have n3_ : Aside0 (Below w.heap.size w (w47.setCell ⟨gb108, 0, none⟩ (.int .i64 t116))) := ⟨by repeat (first | (with_reducible first | exact HB.out | apply below_alloc | apply pw_below_drewN | apply below_drew1 | refine below_set ?_ (IsS57.ge HI103.out) | refine below_set ?_ GE108.out) | exact HB.out)⟩
         (try clear HO_5)
         (try clear BK108)
         (try clear HI103)
         (try clear HB)
         generalize (w47.setCell ⟨gb108, 0, none⟩ (.int .i64 t116)) = w50 at n0_ n1_ n2_ n3_ ⊢
         have HO_5 := n0_
         have BK108 := n1_
         have HI103 := n2_
         have HB := n3_
         clear n0_ n1_ n2_ n3_
         have n0_ := Aside0.mk (Kd.R_drew HO_5.out)
         have n1_ := Aside0.mk (blk_drew BK108.out)
         have n2_ := Aside0.mk (IsS57.drew HI103.out)
         have n3_ := Aside0.mk (below_drew1 HB.out)
         clear HO_5
         clear BK108
         clear HI103
         clear HB
         have HO_5 := n0_
         have BK108 := n1_
         have HI103 := n2_
         have HB := n3_
         clear n0_ n1_ n2_ n3_
         obtain ⟨Ao52, co52, eo52⟩ := Kd.R_slice HO_5.out
         (first | subst eo52 | (injection eo52 with f1_ f2_ f3_; have f4_ := f1_.symm; have f5_ := f3_.symm; clear f1_ f2_ f3_; subst f4_; subst f5_))
         have p118 : 0 ≤ ((ji19) : Int) := of_decide_eq_true zq39_10
         have q118 : (ji19) < (x5_1.length : Int) := of_decide_eq_true zq39_10
         obtain ⟨ad118, e118, hx118_0, hx118_1⟩ := at_T38 (Kd.R_reads' HO_5.out).2.2 (ji19) p118 q118
         cases e118
         replace p118 := eq_true p118
         replace q118 := eq_true q118
         refine start_ (n := 13) (S := fun w' => w'.cell? ⟨gb108, 0, none⟩ = some (.int .i64 t116) ∧ w'.cell? ⟨gb108, 1, none⟩ = some (.int .i64 x109001_1) ∧ w'.cell? (ad118.add (((ji19)).toNat * 2)) = some (.int .i64 ((rd_T38 x5_1 (ji19)).f0)) ∧ w'.cell? ⟨(ad118.add (((ji19)).toNat * 2)).block, (ad118.add (((ji19)).toNat * 2)).off + 1, none⟩ = some (.int .i64 ((rd_T38 x5_1 (ji19)).f1))) (ds := []) #[false, false, false, false, false, false, false, false, false, false, false, false, false] (by kernel_rfl) rfl rfl ⟨(blk_cell BK108.out 0).trans rfl, (blk_cell BK108.out 1).trans rfl, hx118_0, hx118_1⟩ (fun hHeld => ?_); refine with_tabW spec_DrawCodeStay.tab10 spec_DrawCodeStay.bits10 (fun HT_ HW_ => ?_)
         generalize w50.drew = w51 at HO_5 BK108 HI103 HB hx118_0 hx118_1 hHeld ⊢
         refine pure_ (i := 1) (N := some 32) (v := ?_) (a' := ?_) #[false, true, false, false, false, false, false, false, false, false, false, false, false] rfl rfl (any_of HT_.out (by kernel_rfl)) (fun _ _ _ h => h) (Or.inl ⟨by rfl, ?_⟩) ?_ ?_
         rotate_left
         ·intro w'
          go_simp
          with_reducible rfl
         rotate_left
         ·simp only [Act.put, List.setIfInBounds_toArray, List.set_cons_zero, List.set_cons_succ, i64_w, i32_w]
          rfl
         refine pure_ (i := 2) (N := some 33) (v := ?_) (a' := ?_) #[false, true, true, false, false, false, false, false, false, false, false, false, false] rfl rfl (any_of HT_.out (by kernel_rfl)) (fun _ _ _ h => h) (Or.inl ⟨by rfl, ?_⟩) ?_ ?_
         rotate_left
         ·intro w'
          go_simp
          with_reducible rfl
         rotate_left
         ·simp only [Act.put, List.setIfInBounds_toArray, List.set_cons_zero, List.set_cons_succ, i64_w, i32_w]
          rfl
         refine pure_ (i := 3) (N := some 34) (v := ?_) (a' := ?_) #[false, true, true, true, false, false, false, false, false, false, false, false, false] rfl rfl (any_of HT_.out (by kernel_rfl)) (fun _ _ _ h => h) (Or.inl ⟨by rfl, ?_⟩) ?_ ?_
         rotate_left
         ·intro w'
          go_simp
          with_reducible rfl
         rotate_left
         ·simp only [Act.put, List.setIfInBounds_toArray, List.set_cons_zero, List.set_cons_succ, i64_w, i32_w]
          rfl
         refine pure_ (i := 4) (N := some 35) (v := ?_) (a' := ?_) #[false, true, true, true, true, false, false, false, false, false, false, false, false] rfl rfl (any_of HT_.out (by kernel_rfl)) (fun _ _ _ h => h) (Or.inl ⟨by rfl, ?_⟩) ?_ ?_
         rotate_left
         ·intro w'
          go_simp
          with_reducible rfl
         rotate_left
         ·simp only [Act.put, List.setIfInBounds_toArray, List.set_cons_zero, List.set_cons_succ, i64_w, i32_w]
          rfl
         refine pure_ (i := 5) (N := some 36) (v := ?_) (a' := ?_) #[false, true, true, true, true, true, false, false, false, false, false, false, false] rfl rfl (any_of HT_.out (by kernel_rfl)) (fun _ _ _ h => h) (Or.inl ⟨by rfl, ?_⟩) ?_ ?_
         rotate_left
         ·intro w'
          go_simp
          with_reducible rfl
         rotate_left
         ·simp only [Act.put, List.setIfInBounds_toArray, List.set_cons_zero, List.set_cons_succ, i64_w, i32_w]
          rfl
         refine take_ (i := 0) (N := some 31) (v := ?_) (a' := ?_) #[true, true, true, true, true, true, false, false, false, false, false, false, false] rfl rfl (take_ofW HT_.out HW_.out (by kernel_rfl)) (fun _ _ _ h => h) (Or.inl ⟨by rfl, ?_⟩) hHeld ?_ ?_
         rotate_left
         ·rintro w' ⟨s0, s1, s2, s3⟩
          go_simp
          with_reducible rfl
         rotate_left
         ·simp only [Act.put, List.setIfInBounds_toArray, List.set_cons_zero, List.set_cons_succ, i64_w, i32_w]
          rfl
         refine take_ (i := 6) (N := some 37) (v := ?_) (a' := ?_) #[true, true, true, true, true, true, true, false, false, false, false, false, false] rfl rfl (take_ofW HT_.out HW_.out (by kernel_rfl)) (fun _ _ _ h => h) (Or.inl ⟨by rfl, ?_⟩) hHeld ?_ ?_
         rotate_left
         ·rintro w' ⟨s0, s1, s2, s3⟩
          go_simp
          with_reducible rfl
         rotate_left
         ·simp only [Act.put, List.setIfInBounds_toArray, List.set_cons_zero, List.set_cons_succ, i64_w, i32_w]
          rfl
         refine pure_ (i := 7) (N := some 38) (v := ?_) (a' := ?_) #[true, true, true, true, true, true, true, true, false, false, false, false, false] rfl rfl (any_of HT_.out (by kernel_rfl)) (fun _ _ _ h => h) (Or.inl ⟨by rfl, ?_⟩) ?_ ?_
         rotate_left
         ·intro w'
          go_simp
          with_reducible rfl
         rotate_left
         ·simp only [Act.put, List.setIfInBounds_toArray, List.set_cons_zero, List.set_cons_succ, i64_w, i32_w]
          rfl
         refine pure_ (i := 8) (N := some 39) (v := ?_) (a' := ?_) #[true, true, true, true, true, true, true, true, true, false, false, false, false] rfl rfl (any_of HT_.out (by kernel_rfl)) (fun _ _ _ h => h) (Or.inl ⟨by rfl, ?_⟩) ?_ ?_
         rotate_left
         ·intro w'
          go_simp
          with_reducible rfl
         rotate_left
         ·simp only [Act.put, List.setIfInBounds_toArray, List.set_cons_zero, List.set_cons_succ, i64_w, i32_w]
          rfl
         refine pure_ (i := 9) (N := some 40) (v := ?_) (a' := ?_) #[true, true, true, true, true, true, true, true, true, true, false, false, false] rfl rfl (any_of HT_.out (by kernel_rfl)) (fun _ _ _ h => h) (Or.inl ⟨by rfl, ?_⟩) ?_ ?_
         rotate_left
         ·intro w'
          go_simp
          with_reducible rfl
         rotate_left
         ·simp only [Act.put, List.setIfInBounds_toArray, List.set_cons_zero, List.set_cons_succ, i64_w, i32_w]
          rfl
         refine one_ (i := 10) (N := some 41) #[true, true, true, true, true, true, true, true, true, true, true, false, false] rfl rfl (one_of HT_.out (by kernel_rfl)) (by decide) (fun K hK => ?_)
         refine goes_ Try.func38 (by kernel_rfl) rfl #[.pointer (some ⟨g103, 0, none⟩), .int .i64 20] (by rfl) rfl rfl zq39_5 ?_
         with_reducible refine (spec_l6Rd_pick.calls k1 g103 t101 t117 20 t122 t123 w _ ?side1 ?side2 A33.out).mono ?_
         (zq39_3)
         (zq39_2)
         rintro e w53 ⟨rfl, hi, hb, hk⟩
         have HS2_ := keep_cell hk (hHeld.2.2.1) zq39_7
         have HS3_ := keep_cell hk (hHeld.2.2.2) zq39_7
         refine ⟨_, rfl, ?_⟩
         have n0_ := Aside0.mk (Kd.R_mono (Kd.R_keep (IsS57.apart (show IsS57 w _ g103 t101 t117 from by repeat (first | (with_reducible first | exact HI103.out | apply IsS57.alloc | apply IsS57.drewN | apply IsS57.drew | apply IsS57.set_1 | refine IsS57.far ?_ NB103_108.out _) | exact HI103.out)) (by (zq39_4); exact HO_5.out) (by decide)) hk (fun _ h => h.2)) (fun _ h => h.1))
         have n1_ := Aside0.mk (KeepBut.blk hk (g' := gb108) (o := .cells #[.int .i64 t116, .int .i64 x109001_1] 38 (0, 0)) (by (zq39_1); exact BK108.out) NB108_103.out (by simp))
         have n2_ := Aside0.mk (hb)
         have n3_ := Aside0.mk (hi)
         clear HO_5
         clear BK108
         clear HB
         clear HI103
         have HO_5 := n0_
         have BK108 := n1_
         have HB := n2_
         have HI103 := n3_
         clear n0_ n1_ n2_ n3_
         (try clear hb)
         (try clear hb2)
         (try clear hk)
         (try clear hi)
         refine hK.out _ _ ⟨(blk_cell BK108.out 0).trans rfl, (blk_cell BK108.out 1).trans rfl, HS2_, HS3_⟩ (fun hHeld => ?_)
         clear hK K
         refine norm_ (a' := ?_) ?_ ?_
         rotate_left
         ·show Act.put _ (some 41) _ = _
          simp only [Act.put, List.setIfInBounds_toArray, List.set_cons_zero, List.set_cons_succ, i64_w, i32_w]
          rfl
         refine pure_ (i := 11) (N := some 42) (v := ?_) (a' := ?_) #[true, true, true, true, true, true, true, true, true, true, true, true, false] rfl rfl (any_of HT_.out (by kernel_rfl)) (fun _ _ _ h => h) (Or.inl ⟨by rfl, ?_⟩) ?_ ?_
         rotate_left
         ·intro w'
          go_simp
          with_reducible rfl
         rotate_left
         ·simp only [Act.put, List.setIfInBounds_toArray, List.set_cons_zero, List.set_cons_succ, i64_w, i32_w]
          rfl
         refine pure_ (i := 12) (N := some 43) (v := ?_) (a' := ?_) #[true, true, true, true, true, true, true, true, true, true, true, true, true] rfl rfl (any_of HT_.out (by kernel_rfl)) (fun _ _ _ h => h) (Or.inl ⟨by rfl, ?_⟩) ?_ ?_
         rotate_left
         ·intro w'
          go_simp
          with_reducible rfl
         rotate_left
         ·simp only [Act.put, List.setIfInBounds_toArray, List.set_cons_zero, List.set_cons_succ, i64_w, i32_w]
          rfl
         refine done_ (done_of HT_.out (by kernel_rfl)) ?_
         try go_wp2
         go_roundg k1
         case measure => have := HK1.out; omega
         case rel => exact ⟨(x5_1), (wrap64 (x6_1 - 1)), (t123), (t116), (x109001_1), zq39_12, H', ⟨by have := HK1.out; omega⟩, ⟨by (zq39_4); exact HO_5.out⟩, ⟨by (zq39_1); exact BK108.out⟩, ⟨by repeat (first | (with_reducible first | exact HI103.out | apply IsS57.alloc | apply IsS57.drewN | apply IsS57.drew | apply IsS57.set_1 | refine IsS57.far ?_ NB103_108.out _) | exact HI103.out)⟩, ⟨by repeat (first | (with_reducible first | exact HB.out | apply below_alloc | apply pw_below_drewN | apply below_drew1 | refine below_set ?_ (IsS57.ge HI103.out) | refine below_set ?_ GE108.out) | exact HB.out)⟩⟩
      ·rw [if_neg c21] at H
       exact absurd H (by simp)
     ·rw [if_neg c20] at H
      exact absurd H (by simp)
    ·rw [if_neg c17] at H
     have c17b0 : (t114 == 0) = false := beq_eq_false_iff_ne.mpr c17
     have c17b1 : (t114 != 0) = true := bne_iff_ne.mpr c17
     replace H := Option.bind_eq_some_iff.mp H
     obtain ⟨⟨t127, t128⟩, A540, H⟩ := H
     replace H : (if 0 ≤ (wrap64 ((x5_1.length : Int) - 1)) then (if (wrap64 ((x5_1.length : Int) - 1)) < (x5_1.length : Int) then (if (!(x109000_1 == ((rd_T38 x5_1 (wrap64 ((x5_1.length : Int) - 1))).f0)) || (!(t127 == ((rd_T38 x5_1 (wrap64 ((x5_1.length : Int) - 1))).f1)))) = true then (if x5_1.length < 8796093022208 then (spec_DrawCodeStay.l0 k1 (x5_1 ++ [(⟨x109000_1, t127⟩ : S38)]) (wrap64 (x6_1 - 1)) t101 t128 x109000_1 t127) else (none)) else ((spec_l6Rd_pick.f k1 t101 t128 20).bind fun bt133 => (if bt133.1 = 0 then (if x5_1.length < 8796093022208 then (spec_DrawCodeStay.l0 k1 (x5_1 ++ [(⟨x109000_1, t127⟩ : S38)]) (wrap64 (x6_1 - 1)) t101 bt133.2 x109000_1 t127) else (none)) else (spec_DrawCodeStay.l0 k1 x5_1 (wrap64 (x6_1 - 1)) t101 bt133.2 x109000_1 t127)))) else (none)) else (none)) = some r := H
     have A54 := Aside0.mk A540
     clear A540
     obtain ⟨ji55, hji55⟩ : ∃ j_ : Int, (wrap64 ((x5_1.length : Int) - 1)) = j_ := ⟨_, rfl⟩
     replace H : (if 0 ≤ (ji55) then (if (ji55) < (x5_1.length : Int) then (if (!(x109000_1 == ((rd_T38 x5_1 (ji55)).f0)) || (!(t127 == ((rd_T38 x5_1 (ji55)).f1)))) = true then (if x5_1.length < 8796093022208 then (spec_DrawCodeStay.l0 k1 (x5_1 ++ [(⟨x109000_1, t127⟩ : S38)]) (wrap64 (x6_1 - 1)) t101 t128 x109000_1 t127) else (none)) else ((spec_l6Rd_pick.f k1 t101 t128 20).bind fun bt133 => (if bt133.1 = 0 then (if x5_1.length < 8796093022208 then (spec_DrawCodeStay.l0 k1 (x5_1 ++ [(⟨x109000_1, t127⟩ : S38)]) (wrap64 (x6_1 - 1)) t101 bt133.2 x109000_1 t127) else (none)) else (spec_DrawCodeStay.l0 k1 x5_1 (wrap64 (x6_1 - 1)) t101 bt133.2 x109000_1 t127)))) else (none)) else (none)) = some r := by first | (rw [hji55] at H; exact H) | (simp only [hji55] at H ⊢; exact H)
     (try rw [hji55] at A16)
     (try rw [hji55] at A54)
     have hji55w : (IntKind.i64.wrap ((x5_1.length : Int) - 1)) = ji55 := (i64_w _).trans hji55
     by_cases c56 : 0 ≤ (ji55)
     ·rw [if_pos c56] at H
      have c56b0 : decide (0 ≤ (ji55)) = true := decide_eq_true c56
      clear c56
      by_cases c57 : (ji55) < (x5_1.length : Int)
      ·rw [if_pos c57] at H
       have c57b0 : decide ((ji55) < (x5_1.length : Int)) = true := decide_eq_true c57
       clear c57
       by_cases c58 : (!(x109000_1 == ((rd_T38 x5_1 (ji55)).f0)) || (!(t127 == ((rd_T38 x5_1 (ji55)).f1)))) = true
       ·rw [if_pos c58] at H
        have c58b0 : (!(x109000_1 == ((rd_T38 x5_1 (ji55)).f0)) || (!(t127 == ((rd_T38 x5_1 (ji55)).f1)))) = true := c58
        clear c58
        by_cases c59 : x5_1.length < 8796093022208
        ·rw [if_pos c59] at H
         have LMc59 := Aside0.mk c59
         clear c59
         obtain ⟨y130, hy130⟩ : ∃ y_ : List (S38), y_ = (x5_1 ++ [(⟨x109000_1, t127⟩ : S38)]) := ⟨_, rfl⟩
         replace H : (spec_DrawCodeStay.l0 k1 y130 (wrap64 (x6_1 - 1)) t101 t128 x109000_1 t127) = some r := by first | (rw [hy130]; with_reducible exact H) | (have H2_ := (Option.bind_some _ _).symm.trans H; rw [hy130]; with_reducible exact H2_) | (have H2_ := (Option.bind_some _ _).symm.trans H; with_reducible exact H2_) | with_reducible exact H | (rw [hy130]; exact H) | exact H
         have Ny130 := Aside0.mk hy130
         clear hy130
         have H' := Aside0.mk H
         clear H
         try go_wp2_with (first | ((with_reducible refine gate_callee (f := 38) rfl ?_); refine goesL_ (some 23) rfl rfl Try.func38 (by kernel_rfl) rfl #[.pointer (some ⟨g103, 0, none⟩), .int .i64 2] rfl zq39_5 ?_; (zq39_9); (zq39_3); (zq39_2); rintro e w60 ⟨rfl, hi, hb, hk⟩; refine ⟨_, rfl, ?_⟩; have n0_ := Aside0.mk (Kd.R_mono (Kd.R_keep (IsS57.apart (show IsS57 w _ g103 t101 x104001_1 from by repeat (first | (with_reducible first | exact HI103.out | apply IsS57.alloc | apply IsS57.drewN | apply IsS57.drew | apply IsS57.set_1 | refine IsS57.far ?_ NB103_108.out _) | exact HI103.out)) (by (zq39_4); exact HO_5.out) (by decide)) hk (fun _ h => h.2)) (fun _ h => h.1)); have n1_ := Aside0.mk (KeepBut.blk hk (g' := gb108) (o := .cells #[.int .i64 x109000_1, .int .i64 x109001_1] 38 (0, 0)) (by (zq39_1); exact BK108.out) NB108_103.out (by simp)); have n2_ := Aside0.mk (hb); have n3_ := Aside0.mk (hi); clear HO_5; clear BK108; clear HB; clear HI103; have HO_5 := n0_; have BK108 := n1_; have HB := n2_; have HI103 := n3_; clear n0_ n1_ n2_ n3_; (try clear hb); (try clear hb2); (try clear hk); (try clear hi)) | ((with_reducible refine gate_callee (f := 38) rfl ?_); refine goesL_ (some 29) rfl rfl Try.func38 (by kernel_rfl) rfl #[.pointer (some ⟨g103, 0, none⟩), .int .i64 10] rfl zq39_5 ?_; (zq39_14); (zq39_3); (zq39_2); rintro e w61 ⟨rfl, hi, hb, hk⟩; refine ⟨_, rfl, ?_⟩; have n0_ := Aside0.mk (Kd.R_mono (Kd.R_keep (IsS57.apart (show IsS57 w _ g103 t101 t115 from by repeat (first | (with_reducible first | exact HI103.out | apply IsS57.alloc | apply IsS57.drewN | apply IsS57.drew | apply IsS57.set_1 | refine IsS57.far ?_ NB103_108.out _) | exact HI103.out)) (by (zq39_4); exact HO_5.out) (by decide)) hk (fun _ h => h.2)) (fun _ h => h.1)); have n1_ := Aside0.mk (KeepBut.blk hk (g' := gb108) (o := .cells #[.int .i64 x109000_1, .int .i64 x109001_1] 38 (0, 0)) (by (zq39_1); exact BK108.out) NB108_103.out (by simp)); have n2_ := Aside0.mk (hb); have n3_ := Aside0.mk (hi); clear HO_5; clear BK108; clear HB; clear HI103; have HO_5 := n0_; have BK108 := n1_; have HB := n2_; have HI103 := n3_; clear n0_ n1_ n2_ n3_; (try clear hb); (try clear hb2); (try clear hk); (try clear hi); have hnb62 := NB108_103.out; have hnc62 := NB103_108.out; have hcz63_0 : w61.cell? ⟨gb108, 0, none⟩ = some (.int .i64 x109000_1) := (blk_cell BK108.out 0).trans rfl; have hcz63_1 : w61.cell? ⟨gb108, 1, none⟩ = some (.int .i64 x109001_1) := (blk_cell BK108.out 1).trans rfl; have hfz63_0 := blk_frozen BK108.out 0; have hfz63_1 := blk_frozen BK108.out 1))
         have n0_ : Aside0 (Kd.R k38 38 (w61.setCell ⟨gb108, 1, none⟩ (.int .i64 t127)) w.heap.size (fun k_ => k_ ≠ gb108) u5 x5_1) := ⟨by (zq39_4); exact Kd.R_mono (Kd.R_far (p := ⟨gb108, 1, none⟩) (Kd.R_mono HO_5.out (fun k_ hk => (⟨hk, hk⟩ : _ ∧ k_ ≠ gb108))) (fun _ hk => hk.2) (.int .i64 t127)) (fun _ hk => hk.1)⟩
         have n1_ : Aside0 ((w61.setCell ⟨gb108, 1, none⟩ (.int .i64 t127)).heap[gb108]? = some (.cells #[.int .i64 x109000_1, .int .i64 t127] 38 (0, 0))) := ⟨by (zq39_1); refine blk_put (cs := #[.int .i64 x109000_1, .int .i64 x109001_1]) ?_ 1 _ rfl; (zq39_1); exact BK108.out⟩
         have n2_ : Aside0 (IsS57 w (w61.setCell ⟨gb108, 1, none⟩ (.int .i64 t127)) g103 t101 t128) := ⟨by repeat (first | (with_reducible first | exact HI103.out | apply IsS57.alloc | apply IsS57.drewN | apply IsS57.drew | apply IsS57.set_1 | refine IsS57.far ?_ NB103_108.out _) | exact HI103.out)⟩
         have n3_ : Aside0 (Below w.heap.size w (w61.setCell ⟨gb108, 1, none⟩ (.int .i64 t127))) := ⟨by repeat (first | (with_reducible first | exact HB.out | apply below_alloc | apply pw_below_drewN | apply below_drew1 | refine below_set ?_ (IsS57.ge HI103.out) | refine below_set ?_ GE108.out) | exact HB.out)⟩
         (try clear HO_5)
         (try clear BK108)
         (try clear HI103)
         (try clear HB)
         generalize (w61.setCell ⟨gb108, 1, none⟩ (.int .i64 t127)) = w64 at n0_ n1_ n2_ n3_ ⊢
         have HO_5 := n0_
         have BK108 := n1_
         have HI103 := n2_
         have HB := n3_
         clear n0_ n1_ n2_ n3_
         have n0_ := Aside0.mk (Kd.R_drew HO_5.out)
         have n1_ := Aside0.mk (blk_drew BK108.out)
         have n2_ := Aside0.mk (IsS57.drew HI103.out)
         have n3_ := Aside0.mk (below_drew1 HB.out)
         clear HO_5
         clear BK108
         clear HI103
         clear HB
         have HO_5 := n0_
         have BK108 := n1_
         have HI103 := n2_
         have HB := n3_
         clear n0_ n1_ n2_ n3_
         obtain ⟨Ao66, co66, eo66⟩ := Kd.R_slice HO_5.out
         (first | subst eo66 | (injection eo66 with f1_ f2_ f3_; have f4_ := f1_.symm; have f5_ := f3_.symm; clear f1_ f2_ f3_; subst f4_; subst f5_))
         have p129 : 0 ≤ ((ji55) : Int) := of_decide_eq_true zq39_10
         have q129 : (ji55) < (x5_1.length : Int) := of_decide_eq_true zq39_10
         obtain ⟨ad129, e129, hx129_0, hx129_1⟩ := at_T38 (Kd.R_reads' HO_5.out).2.2 (ji55) p129 q129
         cases e129
         replace p129 := eq_true p129
         replace q129 := eq_true q129
         refine start_ (n := 13) (S := fun w' => w'.cell? ⟨gb108, 0, none⟩ = some (.int .i64 x109000_1) ∧ w'.cell? ⟨gb108, 1, none⟩ = some (.int .i64 t127) ∧ w'.cell? (ad129.add (((ji55)).toNat * 2)) = some (.int .i64 ((rd_T38 x5_1 (ji55)).f0)) ∧ w'.cell? ⟨(ad129.add (((ji55)).toNat * 2)).block, (ad129.add (((ji55)).toNat * 2)).off + 1, none⟩ = some (.int .i64 ((rd_T38 x5_1 (ji55)).f1))) (ds := []) #[false, false, false, false, false, false, false, false, false, false, false, false, false] (by kernel_rfl) rfl rfl ⟨(blk_cell BK108.out 0).trans rfl, (blk_cell BK108.out 1).trans rfl, hx129_0, hx129_1⟩ (fun hHeld => ?_); refine with_tabW spec_DrawCodeStay.tab10 spec_DrawCodeStay.bits10 (fun HT_ HW_ => ?_)
         generalize w64.drew = w65 at HO_5 BK108 HI103 HB hx129_0 hx129_1 hHeld ⊢
         refine pure_ (i := 1) (N := some 32) (v := ?_) (a' := ?_) #[false, true, false, false, false, false, false, false, false, false, false, false, false] rfl rfl (any_of HT_.out (by kernel_rfl)) (fun _ _ _ h => h) (Or.inl ⟨by rfl, ?_⟩) ?_ ?_
         rotate_left
         ·intro w'
          go_simp
          with_reducible rfl
         rotate_left
         ·simp only [Act.put, List.setIfInBounds_toArray, List.set_cons_zero, List.set_cons_succ, i64_w, i32_w]
          rfl
         refine pure_ (i := 2) (N := some 33) (v := ?_) (a' := ?_) #[false, true, true, false, false, false, false, false, false, false, false, false, false] rfl rfl (any_of HT_.out (by kernel_rfl)) (fun _ _ _ h => h) (Or.inl ⟨by rfl, ?_⟩) ?_ ?_
         rotate_left
         ·intro w'
          go_simp
          with_reducible rfl
         rotate_left
         ·simp only [Act.put, List.setIfInBounds_toArray, List.set_cons_zero, List.set_cons_succ, i64_w, i32_w]
          rfl
         refine pure_ (i := 3) (N := some 34) (v := ?_) (a' := ?_) #[false, true, true, true, false, false, false, false, false, false, false, false, false] rfl rfl (any_of HT_.out (by kernel_rfl)) (fun _ _ _ h => h) (Or.inl ⟨by rfl, ?_⟩) ?_ ?_
         rotate_left
         ·intro w'
          go_simp
          with_reducible rfl
         rotate_left
         ·simp only [Act.put, List.setIfInBounds_toArray, List.set_cons_zero, List.set_cons_succ, i64_w, i32_w]
          rfl
         refine pure_ (i := 4) (N := some 35) (v := ?_) (a' := ?_) #[false, true, true, true, true, false, false, false, false, false, false, false, false] rfl rfl (any_of HT_.out (by kernel_rfl)) (fun _ _ _ h => h) (Or.inl ⟨by rfl, ?_⟩) ?_ ?_
         rotate_left
         ·intro w'
          go_simp
          with_reducible rfl
         rotate_left
         ·simp only [Act.put, List.setIfInBounds_toArray, List.set_cons_zero, List.set_cons_succ, i64_w, i32_w]
          rfl
         refine pure_ (i := 5) (N := some 36) (v := ?_) (a' := ?_) #[false, true, true, true, true, true, false, false, false, false, false, false, false] rfl rfl (any_of HT_.out (by kernel_rfl)) (fun _ _ _ h => h) (Or.inl ⟨by rfl, ?_⟩) ?_ ?_
         rotate_left
         ·intro w'
          go_simp
          with_reducible rfl
         rotate_left
         ·simp only [Act.put, List.setIfInBounds_toArray, List.set_cons_zero, List.set_cons_succ, i64_w, i32_w]
          rfl
         refine take_ (i := 0) (N := some 31) (v := ?_) (a' := ?_) #[true, true, true, true, true, true, false, false, false, false, false, false, false] rfl rfl (take_ofW HT_.out HW_.out (by kernel_rfl)) (fun _ _ _ h => h) (Or.inl ⟨by rfl, ?_⟩) hHeld ?_ ?_
         rotate_left
         ·rintro w' ⟨s0, s1, s2, s3⟩
          go_simp
          with_reducible rfl
         rotate_left
         ·simp only [Act.put, List.setIfInBounds_toArray, List.set_cons_zero, List.set_cons_succ, i64_w, i32_w]
          rfl
         refine take_ (i := 6) (N := some 37) (v := ?_) (a' := ?_) #[true, true, true, true, true, true, true, false, false, false, false, false, false] rfl rfl (take_ofW HT_.out HW_.out (by kernel_rfl)) (fun _ _ _ h => h) (Or.inl ⟨by rfl, ?_⟩) hHeld ?_ ?_
         rotate_left
         ·rintro w' ⟨s0, s1, s2, s3⟩
          go_simp
          with_reducible rfl
         rotate_left
         ·simp only [Act.put, List.setIfInBounds_toArray, List.set_cons_zero, List.set_cons_succ, i64_w, i32_w]
          rfl
         refine pure_ (i := 7) (N := some 38) (v := ?_) (a' := ?_) #[true, true, true, true, true, true, true, true, false, false, false, false, false] rfl rfl (any_of HT_.out (by kernel_rfl)) (fun _ _ _ h => h) (Or.inl ⟨by rfl, ?_⟩) ?_ ?_
         rotate_left
         ·intro w'
          go_simp
          with_reducible rfl
         rotate_left
         ·simp only [Act.put, List.setIfInBounds_toArray, List.set_cons_zero, List.set_cons_succ, i64_w, i32_w]
          rfl
         refine pure_ (i := 8) (N := some 39) (v := ?_) (a' := ?_) #[true, true, true, true, true, true, true, true, true, false, false, false, false] rfl rfl (any_of HT_.out (by kernel_rfl)) (fun _ _ _ h => h) (Or.inl ⟨by rfl, ?_⟩) ?_ ?_
         rotate_left
         ·intro w'
          go_simp
          with_reducible rfl
         rotate_left
         ·simp only [Act.put, List.setIfInBounds_toArray, List.set_cons_zero, List.set_cons_succ, i64_w, i32_w]
          rfl
         refine pure_ (i := 9) (N := some 40) (v := undef) (a' := ?_) #[true, true, true, true, true, true, true, true, true, true, false, false, false] rfl rfl (any_of HT_.out (by kernel_rfl)) (fun _ _ _ h => h) (Or.inr ⟨by rfl, rfl⟩) ?_ ?_
         rotate_left
         ·simp only [Act.put, List.setIfInBounds_toArray, List.set_cons_zero, List.set_cons_succ, i64_w, i32_w]
          rfl
         refine pure_ (i := 10) (N := some 41) (v := undef) (a' := ?_) #[true, true, true, true, true, true, true, true, true, true, true, false, false] rfl rfl (any_of HT_.out (by kernel_rfl)) (fun _ _ _ h => h) (Or.inr ⟨by rfl, rfl⟩) ?_ ?_
         rotate_left
         ·simp only [Act.put, List.setIfInBounds_toArray, List.set_cons_zero, List.set_cons_succ, i64_w, i32_w]
          rfl
         refine pure_ (i := 11) (N := some 42) (v := undef) (a' := ?_) #[true, true, true, true, true, true, true, true, true, true, true, true, false] rfl rfl (any_of HT_.out (by kernel_rfl)) (fun _ _ _ h => h) (Or.inr ⟨by rfl, rfl⟩) ?_ ?_
         rotate_left
         ·simp only [Act.put, List.setIfInBounds_toArray, List.set_cons_zero, List.set_cons_succ, i64_w, i32_w]
          rfl
         refine pure_ (i := 12) (N := some 43) (v := ?_) (a' := ?_) #[true, true, true, true, true, true, true, true, true, true, true, true, true] rfl rfl (any_of HT_.out (by kernel_rfl)) (fun _ _ _ h => h) (Or.inl ⟨by rfl, ?_⟩) ?_ ?_
         rotate_left
         ·intro w'
          go_simp
          with_reducible rfl
         rotate_left
         ·simp only [Act.put, List.setIfInBounds_toArray, List.set_cons_zero, List.set_cons_succ, i64_w, i32_w]
          rfl
         refine done_ (done_of HT_.out (by kernel_rfl)) ?_
         have hcz67_0 : w65.cell? ⟨gb108, 0, none⟩ = some (.int .i64 x109000_1) := (blk_cell BK108.out 0).trans rfl
         have hcz67_1 : w65.cell? ⟨gb108, 1, none⟩ = some (.int .i64 t127) := (blk_cell BK108.out 1).trans rfl
         have hfz67_0 := blk_frozen BK108.out 0
         have hfz67_1 := blk_frozen BK108.out 1
         try go_wp2_with (first | ((with_reducible refine gate_builtin (b := .append) (xs := #[.tmp 44, .tmp 46]) rfl ?_); at_builtin; refine Kd.R_append k38 (w0 := w) w.heap.size rfl (.tmp 44) (.tmp 46) 24 38 (.agg #[(.int .i64 0), (.int .i64 0)]) 16 rfl Try.underlying24 info38 rfl (by decide) (by omega) (.slice (some ad129) x5_1.length co66) x5_1 (⟨x109000_1, t127⟩ : S38) [.int .i64 x109000_1, .int .i64 t127] (fun k_ => k_ ≠ gb108) (fun _ => False) rfl rfl ?aP (fun _ hk => hk.elim) ?aF ?aO ?aB ?aS ?aL ?_; (case aP => exact k38_mkM _ _ _ (⟨x109000_1, t127⟩ : S38)); (case aB => exact zq39_6); (case aF => exact (fun k_ hk => Kd.freshB (g := gb108) (o := .cells #[.int .i64 x109000_1, .int .i64 t127] 38 (0, 0)) (by (zq39_1); exact BK108.out) k_ hk)); (zq39_17); (case aS => exact (below_size zq39_6)); (case aL => have := LMc59.out; omega); intro v131 w68 ho hb hg hat; rw [← Ny130.out] at ho; have n0_ := Aside0.mk (blk_grown (g := gb108) (o := .cells #[.int .i64 x109000_1, .int .i64 t127] 38 (0, 0)) (by (zq39_1); exact BK108.out) hg (Kd.R_away HO_5.out (fun _ hk => hk))); have n1_ := Aside0.mk (IsS57.grown zq39_8 hg (IsS57.own_ne HI103.out HO_5.out (by decide))); have n2_ := Aside0.mk (hb); have n3_ := Aside0.mk (ho); clear BK108; clear HI103; clear HB; clear HO_5; have BK108 := n0_; have HI103 := n1_; have HB := n2_; have HO132 := n3_; clear n0_ n1_ n2_ n3_; clear ho hb hg hat))
         go_roundg k1
         case measure => have := HK1.out; omega
         case rel => exact ⟨(y130), (wrap64 (x6_1 - 1)), (t128), (x109000_1), (t127), zq39_12, H', ⟨by have := HK1.out; omega⟩, ⟨by (zq39_4); exact HO132.out⟩, ⟨by (zq39_1); exact BK108.out⟩, ⟨by repeat (first | (with_reducible first | exact HI103.out | apply IsS57.alloc | apply IsS57.drewN | apply IsS57.drew | apply IsS57.set_1 | refine IsS57.far ?_ NB103_108.out _) | exact HI103.out)⟩, ⟨by repeat (first | (with_reducible first | exact HB.out | apply below_alloc | apply pw_below_drewN | apply below_drew1 | refine below_set ?_ (IsS57.ge HI103.out) | refine below_set ?_ GE108.out) | exact HB.out)⟩⟩
        ·rw [if_neg c59] at H
         exact absurd H (by simp)
       ·rw [if_neg c58] at H
        have c58b0 : (!(x109000_1 == ((rd_T38 x5_1 (ji55)).f0)) || (!(t127 == ((rd_T38 x5_1 (ji55)).f1)))) = false := by simpa using c58
        clear c58
        replace H := Option.bind_eq_some_iff.mp H
        obtain ⟨⟨t133, t134⟩, A690, H⟩ := H
        replace H : (if t133 = 0 then (if x5_1.length < 8796093022208 then (spec_DrawCodeStay.l0 k1 (x5_1 ++ [(⟨x109000_1, t127⟩ : S38)]) (wrap64 (x6_1 - 1)) t101 t134 x109000_1 t127) else (none)) else (spec_DrawCodeStay.l0 k1 x5_1 (wrap64 (x6_1 - 1)) t101 t134 x109000_1 t127)) = some r := H
        have A69 := Aside0.mk A690
        clear A690
        by_cases c70 : t133 = 0
        ·rw [if_pos c70] at H
         have c70b0 : (t133 == 0) = true := beq_iff_eq.mpr c70
         have c70b1 : (t133 != 0) = false := bne_eq_false_iff_eq.mpr c70
         clear c70
         by_cases c71 : x5_1.length < 8796093022208
         ·rw [if_pos c71] at H
          have LMc71 := Aside0.mk c71
          clear c71
          obtain ⟨y135, hy135⟩ : ∃ y_ : List (S38), y_ = (x5_1 ++ [(⟨x109000_1, t127⟩ : S38)]) := ⟨_, rfl⟩
          replace H : (spec_DrawCodeStay.l0 k1 y135 (wrap64 (x6_1 - 1)) t101 t134 x109000_1 t127) = some r := by first | (rw [hy135]; with_reducible exact H) | (have H2_ := (Option.bind_some _ _).symm.trans H; rw [hy135]; with_reducible exact H2_) | (have H2_ := (Option.bind_some _ _).symm.trans H; with_reducible exact H2_) | with_reducible exact H | (rw [hy135]; exact H) | exact H
          have Ny135 := Aside0.mk hy135
          clear hy135
          have H' := Aside0.mk H
          clear H
          try go_wp2_with (first | ((with_reducible refine gate_callee (f := 38) rfl ?_); refine goesL_ (some 23) rfl rfl Try.func38 (by kernel_rfl) rfl #[.pointer (some ⟨g103, 0, none⟩), .int .i64 2] rfl zq39_5 ?_; (zq39_9); (zq39_3); (zq39_2); rintro e w72 ⟨rfl, hi, hb, hk⟩; refine ⟨_, rfl, ?_⟩; have n0_ := Aside0.mk (Kd.R_mono (Kd.R_keep (IsS57.apart (show IsS57 w _ g103 t101 x104001_1 from by repeat (first | (with_reducible first | exact HI103.out | apply IsS57.alloc | apply IsS57.drewN | apply IsS57.drew | apply IsS57.set_1 | refine IsS57.far ?_ NB103_108.out _) | exact HI103.out)) (by (zq39_4); exact HO_5.out) (by decide)) hk (fun _ h => h.2)) (fun _ h => h.1)); have n1_ := Aside0.mk (KeepBut.blk hk (g' := gb108) (o := .cells #[.int .i64 x109000_1, .int .i64 x109001_1] 38 (0, 0)) (by (zq39_1); exact BK108.out) NB108_103.out (by simp)); have n2_ := Aside0.mk (hb); have n3_ := Aside0.mk (hi); clear HO_5; clear BK108; clear HB; clear HI103; have HO_5 := n0_; have BK108 := n1_; have HB := n2_; have HI103 := n3_; clear n0_ n1_ n2_ n3_; (try clear hb); (try clear hb2); (try clear hk); (try clear hi)) | ((with_reducible refine gate_callee (f := 38) rfl ?_); refine goesL_ (some 29) rfl rfl Try.func38 (by kernel_rfl) rfl #[.pointer (some ⟨g103, 0, none⟩), .int .i64 10] rfl zq39_5 ?_; (zq39_14); (zq39_3); (zq39_2); rintro e w73 ⟨rfl, hi, hb, hk⟩; refine ⟨_, rfl, ?_⟩; have n0_ := Aside0.mk (Kd.R_mono (Kd.R_keep (IsS57.apart (show IsS57 w _ g103 t101 t115 from by repeat (first | (with_reducible first | exact HI103.out | apply IsS57.alloc | apply IsS57.drewN | apply IsS57.drew | apply IsS57.set_1 | refine IsS57.far ?_ NB103_108.out _) | exact HI103.out)) (by (zq39_4); exact HO_5.out) (by decide)) hk (fun _ h => h.2)) (fun _ h => h.1)); have n1_ := Aside0.mk (KeepBut.blk hk (g' := gb108) (o := .cells #[.int .i64 x109000_1, .int .i64 x109001_1] 38 (0, 0)) (by (zq39_1); exact BK108.out) NB108_103.out (by simp)); have n2_ := Aside0.mk (hb); have n3_ := Aside0.mk (hi); clear HO_5; clear BK108; clear HB; clear HI103; have HO_5 := n0_; have BK108 := n1_; have HB := n2_; have HI103 := n3_; clear n0_ n1_ n2_ n3_; (try clear hb); (try clear hb2); (try clear hk); (try clear hi); have hnb74 := NB108_103.out; have hnc74 := NB103_108.out; have hcz75_0 : w73.cell? ⟨gb108, 0, none⟩ = some (.int .i64 x109000_1) := (blk_cell BK108.out 0).trans rfl; have hcz75_1 : w73.cell? ⟨gb108, 1, none⟩ = some (.int .i64 x109001_1) := (blk_cell BK108.out 1).trans rfl; have hfz75_0 := blk_frozen BK108.out 0; have hfz75_1 := blk_frozen BK108.out 1))
          have n0_ : Aside0 (Kd.R k38 38 (w73.setCell ⟨gb108, 1, none⟩ (.int .i64 t127)) w.heap.size (fun k_ => k_ ≠ gb108) u5 x5_1) := ⟨by (zq39_4); exact Kd.R_mono (Kd.R_far (p := ⟨gb108, 1, none⟩) (Kd.R_mono HO_5.out (fun k_ hk => (⟨hk, hk⟩ : _ ∧ k_ ≠ gb108))) (fun _ hk => hk.2) (.int .i64 t127)) (fun _ hk => hk.1)⟩
          have n1_ : Aside0 ((w73.setCell ⟨gb108, 1, none⟩ (.int .i64 t127)).heap[gb108]? = some (.cells #[.int .i64 x109000_1, .int .i64 t127] 38 (0, 0))) := ⟨by (zq39_1); refine blk_put (cs := #[.int .i64 x109000_1, .int .i64 x109001_1]) ?_ 1 _ rfl; (zq39_1); exact BK108.out⟩
          have n2_ : Aside0 (IsS57 w (w73.setCell ⟨gb108, 1, none⟩ (.int .i64 t127)) g103 t101 t128) := ⟨by repeat (first | (with_reducible first | exact HI103.out | apply IsS57.alloc | apply IsS57.drewN | apply IsS57.drew | apply IsS57.set_1 | refine IsS57.far ?_ NB103_108.out _) | exact HI103.out)⟩
          have n3_ : Aside0 (Below w.heap.size w (w73.setCell ⟨gb108, 1, none⟩ (.int .i64 t127))) := ⟨by repeat (first | (with_reducible first | exact HB.out | apply below_alloc | apply pw_below_drewN | apply below_drew1 | refine below_set ?_ (IsS57.ge HI103.out) | refine below_set ?_ GE108.out) | exact HB.out)⟩
          (try clear HO_5)
          (try clear BK108)
          (try clear HI103)
          (try clear HB)
          generalize (w73.setCell ⟨gb108, 1, none⟩ (.int .i64 t127)) = w76 at n0_ n1_ n2_ n3_ ⊢
          have HO_5 := n0_
          have BK108 := n1_
          have HI103 := n2_
          have HB := n3_
          clear n0_ n1_ n2_ n3_
          have n0_ := Aside0.mk (Kd.R_drew HO_5.out)
          have n1_ := Aside0.mk (blk_drew BK108.out)
          have n2_ := Aside0.mk (IsS57.drew HI103.out)
          have n3_ := Aside0.mk (below_drew1 HB.out)
          clear HO_5
          clear BK108
          clear HI103
          clear HB
          have HO_5 := n0_
          have BK108 := n1_
          have HI103 := n2_
          have HB := n3_
          clear n0_ n1_ n2_ n3_
          obtain ⟨Ao78, co78, eo78⟩ := Kd.R_slice HO_5.out
          (first | subst eo78 | (injection eo78 with f1_ f2_ f3_; have f4_ := f1_.symm; have f5_ := f3_.symm; clear f1_ f2_ f3_; subst f4_; subst f5_))
          have p129 : 0 ≤ ((ji55) : Int) := of_decide_eq_true zq39_10
          have q129 : (ji55) < (x5_1.length : Int) := of_decide_eq_true zq39_10
          obtain ⟨ad129, e129, hx129_0, hx129_1⟩ := at_T38 (Kd.R_reads' HO_5.out).2.2 (ji55) p129 q129
          cases e129
          replace p129 := eq_true p129
          replace q129 := eq_true q129
          refine start_ (n := 13) (S := fun w' => w'.cell? ⟨gb108, 0, none⟩ = some (.int .i64 x109000_1) ∧ w'.cell? ⟨gb108, 1, none⟩ = some (.int .i64 t127) ∧ w'.cell? (ad129.add (((ji55)).toNat * 2)) = some (.int .i64 ((rd_T38 x5_1 (ji55)).f0)) ∧ w'.cell? ⟨(ad129.add (((ji55)).toNat * 2)).block, (ad129.add (((ji55)).toNat * 2)).off + 1, none⟩ = some (.int .i64 ((rd_T38 x5_1 (ji55)).f1))) (ds := []) #[false, false, false, false, false, false, false, false, false, false, false, false, false] (by kernel_rfl) rfl rfl ⟨(blk_cell BK108.out 0).trans rfl, (blk_cell BK108.out 1).trans rfl, hx129_0, hx129_1⟩ (fun hHeld => ?_); refine with_tabW spec_DrawCodeStay.tab10 spec_DrawCodeStay.bits10 (fun HT_ HW_ => ?_)
          generalize w76.drew = w77 at HO_5 BK108 HI103 HB hx129_0 hx129_1 hHeld ⊢
          refine pure_ (i := 1) (N := some 32) (v := ?_) (a' := ?_) #[false, true, false, false, false, false, false, false, false, false, false, false, false] rfl rfl (any_of HT_.out (by kernel_rfl)) (fun _ _ _ h => h) (Or.inl ⟨by rfl, ?_⟩) ?_ ?_
          rotate_left
          ·intro w'
           go_simp
           with_reducible rfl
          rotate_left
          ·simp only [Act.put, List.setIfInBounds_toArray, List.set_cons_zero, List.set_cons_succ, i64_w, i32_w]
           rfl
          refine pure_ (i := 2) (N := some 33) (v := ?_) (a' := ?_) #[false, true, true, false, false, false, false, false, false, false, false, false, false] rfl rfl (any_of HT_.out (by kernel_rfl)) (fun _ _ _ h => h) (Or.inl ⟨by rfl, ?_⟩) ?_ ?_
          rotate_left
          ·intro w'
           go_simp
           with_reducible rfl
          rotate_left
          ·simp only [Act.put, List.setIfInBounds_toArray, List.set_cons_zero, List.set_cons_succ, i64_w, i32_w]
           rfl
          refine pure_ (i := 3) (N := some 34) (v := ?_) (a' := ?_) #[false, true, true, true, false, false, false, false, false, false, false, false, false] rfl rfl (any_of HT_.out (by kernel_rfl)) (fun _ _ _ h => h) (Or.inl ⟨by rfl, ?_⟩) ?_ ?_
          rotate_left
          ·intro w'
           go_simp
           with_reducible rfl
          rotate_left
          ·simp only [Act.put, List.setIfInBounds_toArray, List.set_cons_zero, List.set_cons_succ, i64_w, i32_w]
           rfl
          refine pure_ (i := 4) (N := some 35) (v := ?_) (a' := ?_) #[false, true, true, true, true, false, false, false, false, false, false, false, false] rfl rfl (any_of HT_.out (by kernel_rfl)) (fun _ _ _ h => h) (Or.inl ⟨by rfl, ?_⟩) ?_ ?_
          rotate_left
          ·intro w'
           go_simp
           with_reducible rfl
          rotate_left
          ·simp only [Act.put, List.setIfInBounds_toArray, List.set_cons_zero, List.set_cons_succ, i64_w, i32_w]
           rfl
          refine pure_ (i := 5) (N := some 36) (v := ?_) (a' := ?_) #[false, true, true, true, true, true, false, false, false, false, false, false, false] rfl rfl (any_of HT_.out (by kernel_rfl)) (fun _ _ _ h => h) (Or.inl ⟨by rfl, ?_⟩) ?_ ?_
          rotate_left
          ·intro w'
           go_simp
           with_reducible rfl
          rotate_left
          ·simp only [Act.put, List.setIfInBounds_toArray, List.set_cons_zero, List.set_cons_succ, i64_w, i32_w]
           rfl
          refine take_ (i := 0) (N := some 31) (v := ?_) (a' := ?_) #[true, true, true, true, true, true, false, false, false, false, false, false, false] rfl rfl (take_ofW HT_.out HW_.out (by kernel_rfl)) (fun _ _ _ h => h) (Or.inl ⟨by rfl, ?_⟩) hHeld ?_ ?_
          rotate_left
          ·rintro w' ⟨s0, s1, s2, s3⟩
           go_simp
           with_reducible rfl
          rotate_left
          ·simp only [Act.put, List.setIfInBounds_toArray, List.set_cons_zero, List.set_cons_succ, i64_w, i32_w]
           rfl
          refine take_ (i := 6) (N := some 37) (v := ?_) (a' := ?_) #[true, true, true, true, true, true, true, false, false, false, false, false, false] rfl rfl (take_ofW HT_.out HW_.out (by kernel_rfl)) (fun _ _ _ h => h) (Or.inl ⟨by rfl, ?_⟩) hHeld ?_ ?_
          rotate_left
          ·rintro w' ⟨s0, s1, s2, s3⟩
           go_simp
           with_reducible rfl
          rotate_left
          ·simp only [Act.put, List.setIfInBounds_toArray, List.set_cons_zero, List.set_cons_succ, i64_w, i32_w]
           rfl
          refine pure_ (i := 7) (N := some 38) (v := ?_) (a' := ?_) #[true, true, true, true, true, true, true, true, false, false, false, false, false] rfl rfl (any_of HT_.out (by kernel_rfl)) (fun _ _ _ h => h) (Or.inl ⟨by rfl, ?_⟩) ?_ ?_
          rotate_left
          ·intro w'
           go_simp
           with_reducible rfl
          rotate_left
          ·simp only [Act.put, List.setIfInBounds_toArray, List.set_cons_zero, List.set_cons_succ, i64_w, i32_w]
           rfl
          refine pure_ (i := 8) (N := some 39) (v := ?_) (a' := ?_) #[true, true, true, true, true, true, true, true, true, false, false, false, false] rfl rfl (any_of HT_.out (by kernel_rfl)) (fun _ _ _ h => h) (Or.inl ⟨by rfl, ?_⟩) ?_ ?_
          rotate_left
          ·intro w'
           go_simp
           with_reducible rfl
          rotate_left
          ·simp only [Act.put, List.setIfInBounds_toArray, List.set_cons_zero, List.set_cons_succ, i64_w, i32_w]
           rfl
          refine pure_ (i := 9) (N := some 40) (v := ?_) (a' := ?_) #[true, true, true, true, true, true, true, true, true, true, false, false, false] rfl rfl (any_of HT_.out (by kernel_rfl)) (fun _ _ _ h => h) (Or.inl ⟨by rfl, ?_⟩) ?_ ?_
          rotate_left
          ·intro w'
           go_simp
           with_reducible rfl
          rotate_left
          ·simp only [Act.put, List.setIfInBounds_toArray, List.set_cons_zero, List.set_cons_succ, i64_w, i32_w]
           rfl
          refine one_ (i := 10) (N := some 41) #[true, true, true, true, true, true, true, true, true, true, true, false, false] rfl rfl (one_of HT_.out (by kernel_rfl)) (by decide) (fun K hK => ?_)
          refine goes_ Try.func38 (by kernel_rfl) rfl #[.pointer (some ⟨g103, 0, none⟩), .int .i64 20] (by rfl) rfl rfl zq39_5 ?_
          with_reducible refine (spec_l6Rd_pick.calls k1 g103 t101 t128 20 t133 t134 w _ ?side1 ?side2 A69.out).mono ?_
          (zq39_3)
          (zq39_2)
          rintro e w79 ⟨rfl, hi, hb, hk⟩
          have HS2_ := keep_cell hk (hHeld.2.2.1) zq39_7
          have HS3_ := keep_cell hk (hHeld.2.2.2) zq39_7
          refine ⟨_, rfl, ?_⟩
          have n0_ := Aside0.mk (Kd.R_mono (Kd.R_keep (IsS57.apart (show IsS57 w _ g103 t101 t128 from by repeat (first | (with_reducible first | exact HI103.out | apply IsS57.alloc | apply IsS57.drewN | apply IsS57.drew | apply IsS57.set_1 | refine IsS57.far ?_ NB103_108.out _) | exact HI103.out)) (by (zq39_4); exact HO_5.out) (by decide)) hk (fun _ h => h.2)) (fun _ h => h.1))
          have n1_ := Aside0.mk (KeepBut.blk hk (g' := gb108) (o := .cells #[.int .i64 x109000_1, .int .i64 t127] 38 (0, 0)) (by (zq39_1); exact BK108.out) NB108_103.out (by simp))
          have n2_ := Aside0.mk (hb)
          have n3_ := Aside0.mk (hi)
          clear HO_5
          clear BK108
          clear HB
          clear HI103
          have HO_5 := n0_
          have BK108 := n1_
          have HB := n2_
          have HI103 := n3_
          clear n0_ n1_ n2_ n3_
          (try clear hb)
          (try clear hb2)
          (try clear hk)
          (try clear hi)
          refine hK.out _ _ ⟨(blk_cell BK108.out 0).trans rfl, (blk_cell BK108.out 1).trans rfl, HS2_, HS3_⟩ (fun hHeld => ?_)
          clear hK K
          refine norm_ (a' := ?_) ?_ ?_
          rotate_left
          ·show Act.put _ (some 41) _ = _
           simp only [Act.put, List.setIfInBounds_toArray, List.set_cons_zero, List.set_cons_succ, i64_w, i32_w]
           rfl
          refine pure_ (i := 11) (N := some 42) (v := ?_) (a' := ?_) #[true, true, true, true, true, true, true, true, true, true, true, true, false] rfl rfl (any_of HT_.out (by kernel_rfl)) (fun _ _ _ h => h) (Or.inl ⟨by rfl, ?_⟩) ?_ ?_
          rotate_left
          ·intro w'
           go_simp
           with_reducible rfl
          rotate_left
          ·simp only [Act.put, List.setIfInBounds_toArray, List.set_cons_zero, List.set_cons_succ, i64_w, i32_w]
           rfl
          refine pure_ (i := 12) (N := some 43) (v := ?_) (a' := ?_) #[true, true, true, true, true, true, true, true, true, true, true, true, true] rfl rfl (any_of HT_.out (by kernel_rfl)) (fun _ _ _ h => h) (Or.inl ⟨by rfl, ?_⟩) ?_ ?_
          rotate_left
          ·intro w'
           go_simp
           with_reducible rfl
          rotate_left
          ·simp only [Act.put, List.setIfInBounds_toArray, List.set_cons_zero, List.set_cons_succ, i64_w, i32_w]
           rfl
          refine done_ (done_of HT_.out (by kernel_rfl)) ?_
          have hcz80_0 : w79.cell? ⟨gb108, 0, none⟩ = some (.int .i64 x109000_1) := (blk_cell BK108.out 0).trans rfl
          have hcz80_1 : w79.cell? ⟨gb108, 1, none⟩ = some (.int .i64 t127) := (blk_cell BK108.out 1).trans rfl
          have hfz80_0 := blk_frozen BK108.out 0
          have hfz80_1 := blk_frozen BK108.out 1
          try go_wp2_with (first | ((with_reducible refine gate_builtin (b := .append) (xs := #[.tmp 44, .tmp 46]) rfl ?_); at_builtin; refine Kd.R_append k38 (w0 := w) w.heap.size rfl (.tmp 44) (.tmp 46) 24 38 (.agg #[(.int .i64 0), (.int .i64 0)]) 16 rfl Try.underlying24 info38 rfl (by decide) (by omega) (.slice (some ad129) x5_1.length co78) x5_1 (⟨x109000_1, t127⟩ : S38) [.int .i64 x109000_1, .int .i64 t127] (fun k_ => k_ ≠ gb108) (fun _ => False) rfl rfl ?aP (fun _ hk => hk.elim) ?aF ?aO ?aB ?aS ?aL ?_; (case aP => exact k38_mkM _ _ _ (⟨x109000_1, t127⟩ : S38)); (case aB => exact zq39_6); (case aF => exact (fun k_ hk => Kd.freshB (g := gb108) (o := .cells #[.int .i64 x109000_1, .int .i64 t127] 38 (0, 0)) (by (zq39_1); exact BK108.out) k_ hk)); (zq39_17); (case aS => exact (below_size zq39_6)); (case aL => have := LMc71.out; omega); intro v136 w81 ho hb hg hat; rw [← Ny135.out] at ho; have n0_ := Aside0.mk (blk_grown (g := gb108) (o := .cells #[.int .i64 x109000_1, .int .i64 t127] 38 (0, 0)) (by (zq39_1); exact BK108.out) hg (Kd.R_away HO_5.out (fun _ hk => hk))); have n1_ := Aside0.mk (IsS57.grown zq39_8 hg (IsS57.own_ne HI103.out HO_5.out (by decide))); have n2_ := Aside0.mk (hb); have n3_ := Aside0.mk (ho); clear BK108; clear HI103; clear HB; clear HO_5; have BK108 := n0_; have HI103 := n1_; have HB := n2_; have HO137 := n3_; clear n0_ n1_ n2_ n3_; clear ho hb hg hat))
          go_roundg k1
          case measure => have := HK1.out; omega
          case rel => exact ⟨(y135), (wrap64 (x6_1 - 1)), (t134), (x109000_1), (t127), zq39_12, H', ⟨by have := HK1.out; omega⟩, ⟨by (zq39_4); exact HO137.out⟩, ⟨by (zq39_1); exact BK108.out⟩, ⟨by repeat (first | (with_reducible first | exact HI103.out | apply IsS57.alloc | apply IsS57.drewN | apply IsS57.drew | apply IsS57.set_1 | refine IsS57.far ?_ NB103_108.out _) | exact HI103.out)⟩, ⟨by repeat (first | (with_reducible first | exact HB.out | apply below_alloc | apply pw_below_drewN | apply below_drew1 | refine below_set ?_ (IsS57.ge HI103.out) | refine below_set ?_ GE108.out) | exact HB.out)⟩⟩
         ·rw [if_neg c71] at H
          exact absurd H (by simp)
        ·rw [if_neg c70] at H
         have c70b0 : (t133 == 0) = false := beq_eq_false_iff_ne.mpr c70
         have c70b1 : (t133 != 0) = true := bne_iff_ne.mpr c70
         have H' := Aside0.mk H
         clear H
         try go_wp2_with (first | ((with_reducible refine gate_callee (f := 38) rfl ?_); refine goesL_ (some 23) rfl rfl Try.func38 (by kernel_rfl) rfl #[.pointer (some ⟨g103, 0, none⟩), .int .i64 2] rfl zq39_5 ?_; (zq39_9); (zq39_3); (zq39_2); rintro e w82 ⟨rfl, hi, hb, hk⟩; refine ⟨_, rfl, ?_⟩; have n0_ := Aside0.mk (Kd.R_mono (Kd.R_keep (IsS57.apart (show IsS57 w _ g103 t101 x104001_1 from by repeat (first | (with_reducible first | exact HI103.out | apply IsS57.alloc | apply IsS57.drewN | apply IsS57.drew | apply IsS57.set_1 | refine IsS57.far ?_ NB103_108.out _) | exact HI103.out)) (by (zq39_4); exact HO_5.out) (by decide)) hk (fun _ h => h.2)) (fun _ h => h.1)); have n1_ := Aside0.mk (KeepBut.blk hk (g' := gb108) (o := .cells #[.int .i64 x109000_1, .int .i64 x109001_1] 38 (0, 0)) (by (zq39_1); exact BK108.out) NB108_103.out (by simp)); have n2_ := Aside0.mk (hb); have n3_ := Aside0.mk (hi); clear HO_5; clear BK108; clear HB; clear HI103; have HO_5 := n0_; have BK108 := n1_; have HB := n2_; have HI103 := n3_; clear n0_ n1_ n2_ n3_; (try clear hb); (try clear hb2); (try clear hk); (try clear hi)) | ((with_reducible refine gate_callee (f := 38) rfl ?_); refine goesL_ (some 29) rfl rfl Try.func38 (by kernel_rfl) rfl #[.pointer (some ⟨g103, 0, none⟩), .int .i64 10] rfl zq39_5 ?_; (zq39_14); (zq39_3); (zq39_2); rintro e w83 ⟨rfl, hi, hb, hk⟩; refine ⟨_, rfl, ?_⟩; have n0_ := Aside0.mk (Kd.R_mono (Kd.R_keep (IsS57.apart (show IsS57 w _ g103 t101 t115 from by repeat (first | (with_reducible first | exact HI103.out | apply IsS57.alloc | apply IsS57.drewN | apply IsS57.drew | apply IsS57.set_1 | refine IsS57.far ?_ NB103_108.out _) | exact HI103.out)) (by (zq39_4); exact HO_5.out) (by decide)) hk (fun _ h => h.2)) (fun _ h => h.1)); have n1_ := Aside0.mk (KeepBut.blk hk (g' := gb108) (o := .cells #[.int .i64 x109000_1, .int .i64 x109001_1] 38 (0, 0)) (by (zq39_1); exact BK108.out) NB108_103.out (by simp)); have n2_ := Aside0.mk (hb); have n3_ := Aside0.mk (hi); clear HO_5; clear BK108; clear HB; clear HI103; have HO_5 := n0_; have BK108 := n1_; have HB := n2_; have HI103 := n3_; clear n0_ n1_ n2_ n3_; (try clear hb); (try clear hb2); (try clear hk); (try clear hi); have hnb84 := NB108_103.out; have hnc84 := NB103_108.out; have hcz85_0 : w83.cell? ⟨gb108, 0, none⟩ = some (.int .i64 x109000_1) := (blk_cell BK108.out 0).trans rfl; have hcz85_1 : w83.cell? ⟨gb108, 1, none⟩ = some (.int .i64 x109001_1) := (blk_cell BK108.out 1).trans rfl; have hfz85_0 := blk_frozen BK108.out 0; have hfz85_1 := blk_frozen BK108.out 1))
         have n0_ : Aside0 (Kd.R k38 38 (w83.setCell ⟨gb108, 1, none⟩ (.int .i64 t127)) w.heap.size (fun k_ => k_ ≠ gb108) u5 x5_1) := ⟨by (zq39_4); exact Kd.R_mono (Kd.R_far (p := ⟨gb108, 1, none⟩) (Kd.R_mono HO_5.out (fun k_ hk => (⟨hk, hk⟩ : _ ∧ k_ ≠ gb108))) (fun _ hk => hk.2) (.int .i64 t127)) (fun _ hk => hk.1)⟩
         have n1_ : Aside0 ((w83.setCell ⟨gb108, 1, none⟩ (.int .i64 t127)).heap[gb108]? = some (.cells #[.int .i64 x109000_1, .int .i64 t127] 38 (0, 0))) := ⟨by (zq39_1); refine blk_put (cs := #[.int .i64 x109000_1, .int .i64 x109001_1]) ?_ 1 _ rfl; (zq39_1); exact BK108.out⟩
         have n2_ : Aside0 (IsS57 w (w83.setCell ⟨gb108, 1, none⟩ (.int .i64 t127)) g103 t101 t128) := ⟨by repeat (first | (with_reducible first | exact HI103.out | apply IsS57.alloc | apply IsS57.drewN | apply IsS57.drew | apply IsS57.set_1 | refine IsS57.far ?_ NB103_108.out _) | exact HI103.out)⟩
         have n3_ : Aside0 (Below w.heap.size w (w83.setCell ⟨gb108, 1, none⟩ (.int .i64 t127))) := ⟨by repeat (first | (with_reducible first | exact HB.out | apply below_alloc | apply pw_below_drewN | apply below_drew1 | refine below_set ?_ (IsS57.ge HI103.out) | refine below_set ?_ GE108.out) | exact HB.out)⟩
         (try clear HO_5)
         (try clear BK108)
         (try clear HI103)
         (try clear HB)
         generalize (w83.setCell ⟨gb108, 1, none⟩ (.int .i64 t127)) = w86 at n0_ n1_ n2_ n3_ ⊢
         have HO_5 := n0_
         have BK108 := n1_
         have HI103 := n2_
         have HB := n3_
         clear n0_ n1_ n2_ n3_
         have n0_ := Aside0.mk (Kd.R_drew HO_5.out)
         have n1_ := Aside0.mk (blk_drew BK108.out)
         have n2_ := Aside0.mk (IsS57.drew HI103.out)
         have n3_ := Aside0.mk (below_drew1 HB.out)
         clear HO_5
         clear BK108
         clear HI103
         clear HB
         have HO_5 := n0_
         have BK108 := n1_
         have HI103 := n2_
         have HB := n3_
         clear n0_ n1_ n2_ n3_
         obtain ⟨Ao88, co88, eo88⟩ := Kd.R_slice HO_5.out
         (first | subst eo88 | (injection eo88 with f1_ f2_ f3_; have f4_ := f1_.symm; have f5_ := f3_.symm; clear f1_ f2_ f3_; subst f4_; subst f5_))
         have p129 : 0 ≤ ((ji55) : Int) := of_decide_eq_true zq39_10
         have q129 : (ji55) < (x5_1.length : Int) := of_decide_eq_true zq39_10
         obtain ⟨ad129, e129, hx129_0, hx129_1⟩ := at_T38 (Kd.R_reads' HO_5.out).2.2 (ji55) p129 q129
         cases e129
         replace p129 := eq_true p129
         replace q129 := eq_true q129
         refine start_ (n := 13) (S := fun w' => w'.cell? ⟨gb108, 0, none⟩ = some (.int .i64 x109000_1) ∧ w'.cell? ⟨gb108, 1, none⟩ = some (.int .i64 t127) ∧ w'.cell? (ad129.add (((ji55)).toNat * 2)) = some (.int .i64 ((rd_T38 x5_1 (ji55)).f0)) ∧ w'.cell? ⟨(ad129.add (((ji55)).toNat * 2)).block, (ad129.add (((ji55)).toNat * 2)).off + 1, none⟩ = some (.int .i64 ((rd_T38 x5_1 (ji55)).f1))) (ds := []) #[false, false, false, false, false, false, false, false, false, false, false, false, false] (by kernel_rfl) rfl rfl ⟨(blk_cell BK108.out 0).trans rfl, (blk_cell BK108.out 1).trans rfl, hx129_0, hx129_1⟩ (fun hHeld => ?_); refine with_tabW spec_DrawCodeStay.tab10 spec_DrawCodeStay.bits10 (fun HT_ HW_ => ?_)
         generalize w86.drew = w87 at HO_5 BK108 HI103 HB hx129_0 hx129_1 hHeld ⊢
         refine pure_ (i := 1) (N := some 32) (v := ?_) (a' := ?_) #[false, true, false, false, false, false, false, false, false, false, false, false, false] rfl rfl (any_of HT_.out (by kernel_rfl)) (fun _ _ _ h => h) (Or.inl ⟨by rfl, ?_⟩) ?_ ?_
         rotate_left
         ·intro w'
          go_simp
          with_reducible rfl
         rotate_left
         ·simp only [Act.put, List.setIfInBounds_toArray, List.set_cons_zero, List.set_cons_succ, i64_w, i32_w]
          rfl
         refine pure_ (i := 2) (N := some 33) (v := ?_) (a' := ?_) #[false, true, true, false, false, false, false, false, false, false, false, false, false] rfl rfl (any_of HT_.out (by kernel_rfl)) (fun _ _ _ h => h) (Or.inl ⟨by rfl, ?_⟩) ?_ ?_
         rotate_left
         ·intro w'
          go_simp
          with_reducible rfl
         rotate_left
         ·simp only [Act.put, List.setIfInBounds_toArray, List.set_cons_zero, List.set_cons_succ, i64_w, i32_w]
          rfl
         refine pure_ (i := 3) (N := some 34) (v := ?_) (a' := ?_) #[false, true, true, true, false, false, false, false, false, false, false, false, false] rfl rfl (any_of HT_.out (by kernel_rfl)) (fun _ _ _ h => h) (Or.inl ⟨by rfl, ?_⟩) ?_ ?_
         rotate_left
         ·intro w'
          go_simp
          with_reducible rfl
         rotate_left
         ·simp only [Act.put, List.setIfInBounds_toArray, List.set_cons_zero, List.set_cons_succ, i64_w, i32_w]
          rfl
         refine pure_ (i := 4) (N := some 35) (v := ?_) (a' := ?_) #[false, true, true, true, true, false, false, false, false, false, false, false, false] rfl rfl (any_of HT_.out (by kernel_rfl)) (fun _ _ _ h => h) (Or.inl ⟨by rfl, ?_⟩) ?_ ?_
         rotate_left
         ·intro w'
          go_simp
          with_reducible rfl
         rotate_left
         ·simp only [Act.put, List.setIfInBounds_toArray, List.set_cons_zero, List.set_cons_succ, i64_w, i32_w]
          rfl
         refine pure_ (i := 5) (N := some 36) (v := ?_) (a' := ?_) #[false, true, true, true, true, true, false, false, false, false, false, false, false] rfl rfl (any_of HT_.out (by kernel_rfl)) (fun _ _ _ h => h) (Or.inl ⟨by rfl, ?_⟩) ?_ ?_
         rotate_left
         ·intro w'
          go_simp
          with_reducible rfl
         rotate_left
         ·simp only [Act.put, List.setIfInBounds_toArray, List.set_cons_zero, List.set_cons_succ, i64_w, i32_w]
          rfl
         refine take_ (i := 0) (N := some 31) (v := ?_) (a' := ?_) #[true, true, true, true, true, true, false, false, false, false, false, false, false] rfl rfl (take_ofW HT_.out HW_.out (by kernel_rfl)) (fun _ _ _ h => h) (Or.inl ⟨by rfl, ?_⟩) hHeld ?_ ?_
         rotate_left
         ·rintro w' ⟨s0, s1, s2, s3⟩
          go_simp
          with_reducible rfl
         rotate_left
         ·simp only [Act.put, List.setIfInBounds_toArray, List.set_cons_zero, List.set_cons_succ, i64_w, i32_w]
          rfl
         refine take_ (i := 6) (N := some 37) (v := ?_) (a' := ?_) #[true, true, true, true, true, true, true, false, false, false, false, false, false] rfl rfl (take_ofW HT_.out HW_.out (by kernel_rfl)) (fun _ _ _ h => h) (Or.inl ⟨by rfl, ?_⟩) hHeld ?_ ?_
         rotate_left
         ·rintro w' ⟨s0, s1, s2, s3⟩
          go_simp
          with_reducible rfl
         rotate_left
         ·simp only [Act.put, List.setIfInBounds_toArray, List.set_cons_zero, List.set_cons_succ, i64_w, i32_w]
          rfl
         refine pure_ (i := 7) (N := some 38) (v := ?_) (a' := ?_) #[true, true, true, true, true, true, true, true, false, false, false, false, false] rfl rfl (any_of HT_.out (by kernel_rfl)) (fun _ _ _ h => h) (Or.inl ⟨by rfl, ?_⟩) ?_ ?_
         rotate_left
         ·intro w'
          go_simp
          with_reducible rfl
         rotate_left
         ·simp only [Act.put, List.setIfInBounds_toArray, List.set_cons_zero, List.set_cons_succ, i64_w, i32_w]
          rfl
         refine pure_ (i := 8) (N := some 39) (v := ?_) (a' := ?_) #[true, true, true, true, true, true, true, true, true, false, false, false, false] rfl rfl (any_of HT_.out (by kernel_rfl)) (fun _ _ _ h => h) (Or.inl ⟨by rfl, ?_⟩) ?_ ?_
         rotate_left
         ·intro w'
          go_simp
          with_reducible rfl
         rotate_left
         ·simp only [Act.put, List.setIfInBounds_toArray, List.set_cons_zero, List.set_cons_succ, i64_w, i32_w]
          rfl
         refine pure_ (i := 9) (N := some 40) (v := ?_) (a' := ?_) #[true, true, true, true, true, true, true, true, true, true, false, false, false] rfl rfl (any_of HT_.out (by kernel_rfl)) (fun _ _ _ h => h) (Or.inl ⟨by rfl, ?_⟩) ?_ ?_
         rotate_left
         ·intro w'
          go_simp
          with_reducible rfl
         rotate_left
         ·simp only [Act.put, List.setIfInBounds_toArray, List.set_cons_zero, List.set_cons_succ, i64_w, i32_w]
          rfl
         refine one_ (i := 10) (N := some 41) #[true, true, true, true, true, true, true, true, true, true, true, false, false] rfl rfl (one_of HT_.out (by kernel_rfl)) (by decide) (fun K hK => ?_)
         refine goes_ Try.func38 (by kernel_rfl) rfl #[.pointer (some ⟨g103, 0, none⟩), .int .i64 20] (by rfl) rfl rfl zq39_5 ?_
         with_reducible refine (spec_l6Rd_pick.calls k1 g103 t101 t128 20 t133 t134 w _ ?side1 ?side2 A69.out).mono ?_
         (zq39_3)
         (zq39_2)
         rintro e w89 ⟨rfl, hi, hb, hk⟩
         have HS2_ := keep_cell hk (hHeld.2.2.1) zq39_7
         have HS3_ := keep_cell hk (hHeld.2.2.2) zq39_7
         refine ⟨_, rfl, ?_⟩
         have n0_ := Aside0.mk (Kd.R_mono (Kd.R_keep (IsS57.apart (show IsS57 w _ g103 t101 t128 from by repeat (first | (with_reducible first | exact HI103.out | apply IsS57.alloc | apply IsS57.drewN | apply IsS57.drew | apply IsS57.set_1 | refine IsS57.far ?_ NB103_108.out _) | exact HI103.out)) (by (zq39_4); exact HO_5.out) (by decide)) hk (fun _ h => h.2)) (fun _ h => h.1))
         have n1_ := Aside0.mk (KeepBut.blk hk (g' := gb108) (o := .cells #[.int .i64 x109000_1, .int .i64 t127] 38 (0, 0)) (by (zq39_1); exact BK108.out) NB108_103.out (by simp))
         have n2_ := Aside0.mk (hb)
         have n3_ := Aside0.mk (hi)
         clear HO_5
         clear BK108
         clear HB
         clear HI103
         have HO_5 := n0_
         have BK108 := n1_
         have HB := n2_
         have HI103 := n3_
         clear n0_ n1_ n2_ n3_
         (try clear hb)
         (try clear hb2)
         (try clear hk)
         (try clear hi)
         refine hK.out _ _ ⟨(blk_cell BK108.out 0).trans rfl, (blk_cell BK108.out 1).trans rfl, HS2_, HS3_⟩ (fun hHeld => ?_)
         clear hK K
         refine norm_ (a' := ?_) ?_ ?_
         rotate_left
         ·show Act.put _ (some 41) _ = _
          simp only [Act.put, List.setIfInBounds_toArray, List.set_cons_zero, List.set_cons_succ, i64_w, i32_w]
          rfl
         refine pure_ (i := 11) (N := some 42) (v := ?_) (a' := ?_) #[true, true, true, true, true, true, true, true, true, true, true, true, false] rfl rfl (any_of HT_.out (by kernel_rfl)) (fun _ _ _ h => h) (Or.inl ⟨by rfl, ?_⟩) ?_ ?_
         rotate_left
         ·intro w'
          go_simp
          with_reducible rfl
         rotate_left
         ·simp only [Act.put, List.setIfInBounds_toArray, List.set_cons_zero, List.set_cons_succ, i64_w, i32_w]
          rfl
         refine pure_ (i := 12) (N := some 43) (v := ?_) (a' := ?_) #[true, true, true, true, true, true, true, true, true, true, true, true, true] rfl rfl (any_of HT_.out (by kernel_rfl)) (fun _ _ _ h => h) (Or.inl ⟨by rfl, ?_⟩) ?_ ?_
         rotate_left
         ·intro w'
          go_simp
          with_reducible rfl
         rotate_left
         ·simp only [Act.put, List.setIfInBounds_toArray, List.set_cons_zero, List.set_cons_succ, i64_w, i32_w]
          rfl
         refine done_ (done_of HT_.out (by kernel_rfl)) ?_
         try go_wp2
         go_roundg k1
         case measure => have := HK1.out; omega
         case rel => exact ⟨(x5_1), (wrap64 (x6_1 - 1)), (t134), (x109000_1), (t127), zq39_12, H', ⟨by have := HK1.out; omega⟩, ⟨by (zq39_4); exact HO_5.out⟩, ⟨by (zq39_1); exact BK108.out⟩, ⟨by repeat (first | (with_reducible first | exact HI103.out | apply IsS57.alloc | apply IsS57.drewN | apply IsS57.drew | apply IsS57.set_1 | refine IsS57.far ?_ NB103_108.out _) | exact HI103.out)⟩, ⟨by repeat (first | (with_reducible first | exact HB.out | apply below_alloc | apply pw_below_drewN | apply below_drew1 | refine below_set ?_ (IsS57.ge HI103.out) | refine below_set ?_ GE108.out) | exact HB.out)⟩⟩
      ·rw [if_neg c57] at H
       exact absurd H (by simp)
     ·rw [if_neg c56] at H
      exact absurd H (by simp)
   ·rw [if_neg c15] at H
    have c15b0 : decide (0 < x6_1) = false := decide_eq_false c15
    clear c15
    replace H := Option.bind_eq_some_iff.mp H
    obtain ⟨⟨t138, t139⟩, A900, H⟩ := H
    replace H : (if t138 = 0 then ((spec_l71Pt.f k1 t101 t139).bind fun bt140 => (if x5_1.length < 8796093022208 then (some (x5_1 ++ [(⟨bt140.1, bt140.2.1⟩ : S38)])) else (none))) else (some x5_1)) = some r := H
    have A90 := Aside0.mk A900
    clear A900
    by_cases c91 : t138 = 0
    ·rw [if_pos c91] at H
     have c91b0 : (t138 == 0) = true := beq_iff_eq.mpr c91
     have c91b1 : (t138 != 0) = false := bne_eq_false_iff_eq.mpr c91
     clear c91
     replace H := Option.bind_eq_some_iff.mp H
     obtain ⟨⟨t140, t141, t142⟩, A920, H⟩ := H
     replace H : (if x5_1.length < 8796093022208 then (some (x5_1 ++ [(⟨t140, t141⟩ : S38)])) else (none)) = some r := H
     have A92 := Aside0.mk A920
     clear A920
     by_cases c93 : x5_1.length < 8796093022208
     ·rw [if_pos c93] at H
      have LMc93 := Aside0.mk c93
      clear c93
      obtain ⟨y143, hy143⟩ : ∃ y_ : List (S38), y_ = (x5_1 ++ [(⟨t140, t141⟩ : S38)]) := ⟨_, rfl⟩
      replace H : (some y143) = some r := by first | (rw [hy143]; with_reducible exact H) | (have H2_ := (Option.bind_some _ _).symm.trans H; rw [hy143]; with_reducible exact H2_) | (have H2_ := (Option.bind_some _ _).symm.trans H; with_reducible exact H2_) | with_reducible exact H | (rw [hy143]; exact H) | exact H
      have Ny143 := Aside0.mk hy143
      clear hy143
      obtain rfl := Option.some.inj H
      go_wp2_with (first | ((with_reducible refine gate_callee (f := 38) rfl ?_); refine goesL_ (some 49) rfl rfl Try.func38 (by kernel_rfl) rfl #[.pointer (some ⟨g103, 0, none⟩), .int .i64 12] rfl zq39_5 ?_; (with_reducible refine (spec_l6Rd_pick.calls k1 g103 t101 x104001_1 12 t138 t139 w _ ?side1 ?side2 A90.out).mono ?_); (zq39_3); (zq39_2); rintro e w94 ⟨rfl, hi, hb, hk⟩; refine ⟨_, rfl, ?_⟩; have n0_ := Aside0.mk (Kd.R_mono (Kd.R_keep (IsS57.apart (show IsS57 w _ g103 t101 x104001_1 from by repeat (first | (with_reducible first | exact HI103.out | apply IsS57.alloc | apply IsS57.drewN | apply IsS57.drew | apply IsS57.set_1 | refine IsS57.far ?_ NB103_108.out _) | exact HI103.out)) (by (zq39_4); exact HO_5.out) (by decide)) hk (fun _ h => h.2)) (fun _ h => h.1)); have n1_ := Aside0.mk (KeepBut.blk hk (g' := gb108) (o := .cells #[.int .i64 x109000_1, .int .i64 x109001_1] 38 (0, 0)) (by (zq39_1); exact BK108.out) NB108_103.out (by simp)); have n2_ := Aside0.mk (hb); have n3_ := Aside0.mk (hi); clear HO_5; clear BK108; clear HB; clear HI103; have HO_5 := n0_; have BK108 := n1_; have HB := n2_; have HI103 := n3_; clear n0_ n1_ n2_ n3_; (try clear hb); (try clear hb2); (try clear hk); (try clear hi)) | ((with_reducible refine gate_callee (f := 39) rfl ?_); refine goesL_ (some 53) rfl rfl Try.func39 (by kernel_rfl) rfl #[.pointer (some ⟨g103, 0, none⟩)] rfl zq39_5 ?_; (with_reducible refine (spec_l71Pt.calls k1 g103 t101 t139 t140 t141 t142 w _ ?side1 ?side2 A92.out).mono ?_); (zq39_3); (zq39_2); rintro e w95 ⟨rfl, hi, hb, hk⟩; refine ⟨_, rfl, ?_⟩; have n0_ := Aside0.mk (Kd.R_mono (Kd.R_keep (IsS57.apart (show IsS57 w _ g103 t101 t139 from by repeat (first | (with_reducible first | exact HI103.out | apply IsS57.alloc | apply IsS57.drewN | apply IsS57.drew | apply IsS57.set_1 | refine IsS57.far ?_ NB103_108.out _) | exact HI103.out)) (by (zq39_4); exact HO_5.out) (by decide)) hk (fun _ h => h.2)) (fun _ h => h.1)); have n1_ := Aside0.mk (KeepBut.blk hk (g' := gb108) (o := .cells #[.int .i64 x109000_1, .int .i64 x109001_1] 38 (0, 0)) (by (zq39_1); exact BK108.out) NB108_103.out (by simp)); have n2_ := Aside0.mk (hb); have n3_ := Aside0.mk (hi); clear HO_5; clear BK108; clear HB; clear HI103; have HO_5 := n0_; have BK108 := n1_; have HB := n2_; have HI103 := n3_; clear n0_ n1_ n2_ n3_; (try clear hb); (try clear hb2); (try clear hk); (try clear hi)) | ((with_reducible refine gate_builtin (b := .append) (xs := #[.tmp 51, .tmp 54]) rfl ?_); at_builtin; refine Kd.R_append k38 (w0 := w) w.heap.size rfl (.tmp 51) (.tmp 54) 24 38 (.agg #[(.int .i64 0), (.int .i64 0)]) 16 rfl Try.underlying24 info38 rfl (by decide) (by omega) u5 x5_1 (⟨t140, t141⟩ : S38) [.int .i64 t140, .int .i64 t141] (fun k_ => k_ ≠ gb108) (fun _ => False) rfl rfl ?aP (fun _ hk => hk.elim) ?aF ?aO ?aB ?aS ?aL ?_; (case aP => exact k38_mkM _ _ _ (⟨t140, t141⟩ : S38)); (case aB => exact zq39_6); (case aF => exact (fun k_ hk => Kd.freshB (g := gb108) (o := .cells #[.int .i64 x109000_1, .int .i64 x109001_1] 38 (0, 0)) (by (zq39_1); exact BK108.out) k_ hk)); (zq39_17); (case aS => exact (below_size zq39_6)); (case aL => have := LMc93.out; omega); intro v144 w96 ho hb hg hat; rw [← Ny143.out] at ho; have n0_ := Aside0.mk (blk_grown (g := gb108) (o := .cells #[.int .i64 x109000_1, .int .i64 x109001_1] 38 (0, 0)) (by (zq39_1); exact BK108.out) hg (Kd.R_away HO_5.out (fun _ hk => hk))); have n1_ := Aside0.mk (IsS57.grown zq39_8 hg (IsS57.own_ne HI103.out HO_5.out (by decide))); have n2_ := Aside0.mk (hb); have n3_ := Aside0.mk (ho); clear BK108; clear HI103; clear HB; clear HO_5; have BK108 := n0_; have HI103 := n1_; have HB := n2_; have HO145 := n3_; clear n0_ n1_ n2_ n3_; clear ho hb hg hat))
      go_ret
      exact ⟨_, by first | rfl | (simp [errW_none, errW_some] <;> rfl) | (simp [*, errW_none, errW_some] <;> rfl), by (zq39_4); exact Kd.R_mono HO145.out (fun _ hk => trivial), by repeat (first | (with_reducible first | exact HB.out | apply below_alloc | apply pw_below_drewN | apply below_drew1 | refine below_set ?_ (IsS57.ge HI103.out) | refine below_set ?_ GE108.out) | exact HB.out)⟩
     ·rw [if_neg c93] at H
      exact absurd H (by simp)
    ·rw [if_neg c91] at H
     have c91b0 : (t138 == 0) = false := beq_eq_false_iff_ne.mpr c91
     have c91b1 : (t138 != 0) = true := bne_iff_ne.mpr c91
     obtain rfl := Option.some.inj H
     go_wp2_with (first | ((with_reducible refine gate_callee (f := 38) rfl ?_); refine goesL_ (some 49) rfl rfl Try.func38 (by kernel_rfl) rfl #[.pointer (some ⟨g103, 0, none⟩), .int .i64 12] rfl zq39_5 ?_; (with_reducible refine (spec_l6Rd_pick.calls k1 g103 t101 x104001_1 12 t138 t139 w _ ?side1 ?side2 A90.out).mono ?_); (zq39_3); (zq39_2); rintro e w97 ⟨rfl, hi, hb, hk⟩; refine ⟨_, rfl, ?_⟩; have n0_ := Aside0.mk (Kd.R_mono (Kd.R_keep (IsS57.apart (show IsS57 w _ g103 t101 x104001_1 from by repeat (first | (with_reducible first | exact HI103.out | apply IsS57.alloc | apply IsS57.drewN | apply IsS57.drew | apply IsS57.set_1 | refine IsS57.far ?_ NB103_108.out _) | exact HI103.out)) (by (zq39_4); exact HO_5.out) (by decide)) hk (fun _ h => h.2)) (fun _ h => h.1)); have n1_ := Aside0.mk (KeepBut.blk hk (g' := gb108) (o := .cells #[.int .i64 x109000_1, .int .i64 x109001_1] 38 (0, 0)) (by (zq39_1); exact BK108.out) NB108_103.out (by simp)); have n2_ := Aside0.mk (hb); have n3_ := Aside0.mk (hi); clear HO_5; clear BK108; clear HB; clear HI103; have HO_5 := n0_; have BK108 := n1_; have HB := n2_; have HI103 := n3_; clear n0_ n1_ n2_ n3_; (try clear hb); (try clear hb2); (try clear hk); (try clear hi)))
     go_ret
     exact ⟨_, by first | rfl | (simp [errW_none, errW_some] <;> rfl) | (simp [*, errW_none, errW_some] <;> rfl), by (zq39_4); exact Kd.R_mono HO_5.out (fun _ hk => trivial), by repeat (first | (with_reducible first | exact HB.out | apply below_alloc | apply pw_below_drewN | apply below_drew1 | refine below_set ?_ (IsS57.ge HI103.out) | refine below_set ?_ GE108.out) | exact HB.out)⟩

end Go.Proofs.Ytdacpdhpifocbaa.P

namespace Go.Proofs.Ytdacpdhpifocbaa.Q
open Go.RowKit Go.Proofs.Ytdacpdhpifocbaa.P Go.Proofs.YtdacpdhpifocbaaW.PrintWords Go.Proofs.YtdacpdhpifocbaaW.PrintLast
set_option linter.unusedVariables false
/-- a point that is drawn -/
def Small (p : PT) : Prop := -1 ≤ p.f0 ∧ p.f0 ≤ 10 ∧ -1 ≤ p.f1 ∧ p.f1 ≤ 10
theorem small_snoc {l : List PT} {p : PT} (h : ∀ q ∈ l, Small q) (hp : Small p) : ∀ q ∈ l ++ [p], Small q := fun q hq => by
  rcases List.mem_append.1 hq with h' | h'
  · exact h q h'
  · rw [List.mem_singleton.1 h']; exact hp
theorem drawStay_l0 {s : List Int} (hs : Bytes s) : ∀ (d k : Nat) (acc : List PT) (p a b : Int), 0 ≤ p → p + 10 * (d : Int) ≤ 900000 → 1 ≤ acc.length → acc.length + d ≤ 1000 → d + 2 ≤ k → d ≤ 1000 → (∀ q ∈ acc, Small q) → 0 ≤ a ∧ a < 10 → 0 ≤ b ∧ b < 10 →
    ∃ r, spec_DrawCodeStay.l0 k acc (d : Int) s p a b = some r ∧ 1 ≤ r.length ∧ r.length ≤ acc.length + d + 1 ∧ ∀ q ∈ r, Small q := by
  intro d
  induction d with
  | zero =>
    intro k acc p a b hp hp' h1 h2 hk hd hsm ha hb
    obtain ⟨k, rfl⟩ : ∃ m, k = m + 1 := ⟨k - 1, by omega⟩
    simp only [spec_DrawCodeStay.l0]
    rw [if_neg (by omega)]
    obtain ⟨v, hv, v0, v1⟩ := pick_f hs p 12 (by omega) (by omega) k (by omega)
    rw [hv]
    simp only [Option.bind_some]
    by_cases e : v = 0
    · rw [if_pos e]
      obtain ⟨x, y, q, hq, _, _, z0, z1, z2, z3⟩ := l71Pt_f hs (p + 1) (by omega) k (by omega)
      rw [hq]
      simp only [Option.bind_some]
      rw [if_pos (by omega)]
      exact ⟨_, rfl, by simp, by simp, small_snoc hsm ⟨z0, z1, z2, z3⟩⟩
    · rw [if_neg e]
      exact ⟨_, rfl, h1, by omega, hsm⟩
  | succ d ih =>
    intro k acc p a b hp hp' h1 h2 hk hd hsm ha hb
    obtain ⟨k, rfl⟩ : ∃ m, k = m + 1 := ⟨k - 1, by omega⟩
    simp only [spec_DrawCodeStay.l0]
    have hw : wrap64 (((d + 1 : Nat) : Int) - 1) = (d : Int) := by rw [w_id (by omega) (by omega)]; omega
    have hl : wrap64 ((acc.length : Int) - 1) = ((acc.length - 1 : Nat) : Int) := w_pred (by omega) (by omega)
    rw [if_pos (by omega), hw, hl]
    obtain ⟨v, hv, v0, v1⟩ := pick_f hs p 2 (by omega) (by omega) k (by omega)
    rw [hv]
    simp only [Option.bind_some]
    have grow : ∀ (q x y : Int), p ≤ q → q ≤ p + 10 → 0 ≤ x ∧ x < 10 → 0 ≤ y ∧ y < 10 → ∃ r, spec_DrawCodeStay.l0 k (acc ++ [⟨x, y⟩]) (d : Int) s q x y = some r ∧ 1 ≤ r.length ∧ r.length ≤ acc.length + (d + 1) + 1 ∧ ∀ q ∈ r, Small q := fun q x y q0 q1 hx hy => by
      obtain ⟨r, hr, r1, r2, r3⟩ := ih k (acc ++ [⟨x, y⟩]) q x y (by omega) (by omega) (by simp) (by simp; omega) (by omega) (by omega) (small_snoc hsm (by unfold Small; simp only; omega)) hx hy
      exact ⟨r, hr, r1, by simp at r2; omega, r3⟩
    have stays : ∀ (q x y : Int), p ≤ q → q ≤ p + 10 → 0 ≤ x ∧ x < 10 → 0 ≤ y ∧ y < 10 → ∃ r, spec_DrawCodeStay.l0 k acc (d : Int) s q x y = some r ∧ 1 ≤ r.length ∧ r.length ≤ acc.length + (d + 1) + 1 ∧ ∀ q ∈ r, Small q := fun q x y q0 q1 hx hy => by
      obtain ⟨r, hr, r1, r2, r3⟩ := ih k acc q x y (by omega) (by omega) h1 (by omega) (by omega) (by omega) hsm hx hy
      exact ⟨r, hr, r1, by omega, r3⟩
    obtain ⟨u, hu, u0, u1⟩ := pick_f hs (p + 1) 10 (by omega) (by omega) k (by omega)
    obtain ⟨t, ht, t0, t1⟩ := pick_f hs (p + 1 + 1) 20 (by omega) (by omega) k (by omega)
    by_cases e : v = 0
    · rw [if_pos e, hu]
      simp only [Option.bind_some]
      rw [if_pos (by omega), if_pos (by omega), ht]
      simp only [Option.bind_some]
      split
      · rw [if_pos (by omega)]
        exact grow _ _ _ (by omega) (by omega) (by omega) (by omega)
      · split
        · rw [if_pos (by omega)]
          exact grow _ _ _ (by omega) (by omega) (by omega) (by omega)
        · exact stays _ _ _ (by omega) (by omega) (by omega) (by omega)
    · rw [if_neg e, hu]
      simp only [Option.bind_some]
      rw [if_pos (by omega), if_pos (by omega), ht]
      simp only [Option.bind_some]
      split
      · rw [if_pos (by omega)]
        exact grow _ _ _ (by omega) (by omega) (by omega) (by omega)
      · split
        · rw [if_pos (by omega)]
          exact grow _ _ _ (by omega) (by omega) (by omega) (by omega)
        · exact stays _ _ _ (by omega) (by omega) (by omega) (by omega)
theorem drawStay_f (l : List Int) (hb : ∀ x ∈ l, (Lit.int .u8 x).wf = true) (k : Nat) (hk : 100 ≤ k) : ∃ r, spec_DrawCodeStay.f k l = some r ∧ 1 ≤ r.length ∧ r.length ≤ 8 ∧ ∀ q ∈ r, Small q := by
  obtain ⟨s, ho, hs⟩ := open_f l hb
  unfold spec_DrawCodeStay.f
  rw [ho]
  simp only [Option.bind_some]
  obtain ⟨a, ha, a0, a1⟩ := pick_f hs 0 10 (by omega) (by omega) k (by omega)
  rw [ha]
  simp only [Option.bind_some]
  obtain ⟨b, hb, b0, b1⟩ := pick_f hs (0 + 1) 10 (by omega) (by omega) k (by omega)
  rw [hb]
  simp only [Option.bind_some]
  obtain ⟨n, hn, n0, n1⟩ := pick_f hs (0 + 1 + 1) 7 (by omega) (by omega) k (by omega)
  rw [hn]
  simp only [Option.bind_some]
  obtain ⟨m, rfl⟩ := Int.eq_ofNat_of_zero_le n0
  obtain ⟨r, hr, r1, r2, r3⟩ := drawStay_l0 hs m k [⟨a, b⟩] (0 + 1 + 1 + 1) a b (by omega) (by omega) (by simp) (by simp; omega) (by omega) (by omega)
    (fun q hq => by rw [List.mem_singleton.1 hq]; unfold Small; simp only; omega) ⟨a0, a1⟩ ⟨b0, b1⟩
  exact ⟨r, hr, r1, by simp at r2; omega, r3⟩
end Go.Proofs.Ytdacpdhpifocbaa.Q

namespace Go.Proofs.Ytdacpdhpifocbaa.Q
open Go.RowKit Go.Proofs.Ytdacpdhpifocbaa.P Go.Proofs.YtdacpdhpifocbaaW.PrintWords Go.Proofs.YtdacpdhpifocbaaW.PrintLast
set_option linter.unusedVariables false
set_option maxHeartbeats 2000000
theorem small_ok {p : PT} (h : okP p = true) : Small p := by
  rw [okP_iff] at h
  unfold Small
  omega
theorem drawPath_l0 {s : List Int} (hs : Bytes s) : ∀ (d k : Nat) (acc : List PT) (p a b t : Int), 0 ≤ p → p + 10 * (d : Int) ≤ 900000 → acc.length + d ≤ 1000 → 3 * d + 5 ≤ k → d ≤ 1000 → (∀ q ∈ acc, Small q) → 0 ≤ a ∧ a < 10 → 0 ≤ b ∧ b < 10 → 0 ≤ t ∧ t < 4 →
    ∃ r q, spec_l72Path.l0 k acc t (d : Int) s p a b = some (r, q) ∧ p ≤ q ∧ q ≤ p + 10 * (d : Int) + 10 ∧ r.length ≤ acc.length + d + 1 ∧ ∀ q ∈ r, Small q := by
  intro d
  induction d with
  | zero =>
    intro k acc p a b t hp hp' h2 hk hd hsm ha hb ht
    obtain ⟨k, rfl⟩ : ∃ m, k = m + 1 + 1 + 1 := ⟨k - 3, by omega⟩
    simp only [spec_l72Path.l0]
    rw [if_neg (by omega)]
    obtain ⟨v, hv, v0, v1⟩ := pick_f hs p 16 (by omega) (by omega) (k + 1 + 1) (by omega)
    rw [hv]
    simp only [Option.bind_some]
    by_cases e : v = 0
    · rw [if_pos e]
      obtain ⟨x, y, q, hq, q0, q1, z0, z1, z2, z3⟩ := l71Pt_f hs (p + 1) (by omega) (k + 1 + 1) (by omega)
      rw [hq]
      simp only [Option.bind_some]
      rw [if_pos (by omega)]
      simp only [spec_l72Path.j4]
      exact ⟨_, _, rfl, by omega, by omega, by simp, small_snoc hsm ⟨z0, z1, z2, z3⟩⟩
    · rw [if_neg e]
      by_cases e1 : v = 1
      · rw [if_pos e1, if_pos (by omega)]
        simp only [spec_l72Path.j3, spec_l72Path.j4]
        exact ⟨_, _, rfl, by omega, by omega, by simp, fun q hq => by simp at hq⟩
      · rw [if_neg e1]
        simp only [spec_l72Path.j3, spec_l72Path.j4]
        exact ⟨_, _, rfl, by omega, by omega, by omega, hsm⟩
  | succ d ih =>
    intro k acc p a b t hp hp' h2 hk hd hsm ha hb ht
    obtain ⟨k, rfl⟩ : ∃ m, k = m + 1 + 1 + 1 := ⟨k - 3, by omega⟩
    simp only [spec_l72Path.l0]
    rw [if_pos (by omega)]
    obtain ⟨v, hv, v0, v1⟩ := pick_f hs p 3 (by omega) (by omega) (k + 1 + 1) (by omega)
    rw [hv]
    simp only [Option.bind_some]
    have hw : wrap64 (((d + 1 : Nat) : Int) - 1) = (d : Int) := by rw [w_id (by omega) (by omega)]; omega
    have key : ∀ (q u : Int), p ≤ q → q ≤ p + 2 → 0 ≤ u ∧ u < 4 → ∃ r q', spec_l72Path.j1 (k + 1 + 1) acc u ((d + 1 : Nat) : Int) s q a b = some (r, q') ∧ p ≤ q' ∧ q' ≤ p + 10 * ((d + 1 : Nat) : Int) + 10 ∧ r.length ≤ acc.length + (d + 1) + 1 ∧ ∀ q ∈ r, Small q := fun q u hq0 hq1 hu => by
      have hx : -1 ≤ rd [1, 0, -1, 0] u ∧ rd [1, 0, -1, 0] u ≤ 1 := by
        have : u = 0 ∨ u = 1 ∨ u = 2 ∨ u = 3 := by omega
        rcases this with rfl | rfl | rfl | rfl <;> simp [rd]
      have hy : -1 ≤ rd [0, 1, 0, -1] u ∧ rd [0, 1, 0, -1] u ≤ 1 := by
        have : u = 0 ∨ u = 1 ∨ u = 2 ∨ u = 3 := by omega
        rcases this with rfl | rfl | rfl | rfl <;> simp [rd]
      simp only [spec_l72Path.j1, Option.bind_some]
      rw [if_pos hu.1, if_pos (by simpa using hu.2), if_pos (by simpa using hu.2)]
      generalize rd [1, 0, -1, 0] u = x at *
      generalize rd [0, 1, 0, -1] u = y at *
      rw [w_id (x := a + x) (by omega) (by omega), w_id (x := b + y) (by omega) (by omega), specOk]
      simp only [Option.bind_some]
      by_cases hok : okP ⟨a + x, b + y⟩ = true
      · have hok' := okP_iff.1 hok
        simp only at hok'
        rw [if_pos hok, if_pos (by omega)]
        simp only [spec_l72Path.j2]
        rw [hw]
        obtain ⟨r, q', hr, r0, r1, r2, r3⟩ := ih k (acc ++ [⟨a + x, b + y⟩]) q (a + x) (b + y) u (by omega) (by omega) (by simp; omega) (by omega) (by omega) (small_snoc hsm (small_ok hok)) (by omega) (by omega) hu
        exact ⟨r, q', hr, by omega, by omega, by simp at r2; omega, r3⟩
      · rw [if_neg hok]
        simp only [spec_l72Path.j2]
        rw [hw]
        obtain ⟨r, q', hr, r0, r1, r2, r3⟩ := ih k acc q a b u (by omega) (by omega) (by omega) (by omega) (by omega) hsm ha hb hu
        exact ⟨r, q', hr, by omega, by omega, by omega, r3⟩
    by_cases e : v = 0
    · rw [if_pos e]
      obtain ⟨u, hu, u0, u1⟩ := pick_f hs (p + 1) 4 (by omega) (by omega) (k + 1 + 1) (by omega)
      rw [hu]
      simp only [Option.bind_some]
      exact key _ _ (by omega) (by omega) ⟨u0, u1⟩
    · rw [if_neg e]
      exact key _ _ (by omega) (by omega) ht
/-- What a path's drawing answers: at most seventeen drawn points; the reader has gone on. -/
theorem drawPath_f {s : List Int} (hs : Bytes s) (p : Int) (hp : 0 ≤ p ∧ p ≤ 1000) (k : Nat) (hk : 100 ≤ k) : ∃ r q, spec_l72Path.f k s p = some (r, q) ∧ p ≤ q ∧ q ≤ p + 200 ∧ r.length ≤ 17 ∧ ∀ q ∈ r, Small q := by
  unfold spec_l72Path.f
  obtain ⟨a, ha, a0, a1⟩ := pick_f hs p 10 (by omega) (by omega) k (by omega)
  rw [ha]
  simp only [Option.bind_some]
  obtain ⟨b, hb, b0, b1⟩ := pick_f hs (p + 1) 10 (by omega) (by omega) k (by omega)
  rw [hb]
  simp only [Option.bind_some]
  obtain ⟨t, ht, t0, t1⟩ := pick_f hs (p + 1 + 1) 4 (by omega) (by omega) k (by omega)
  rw [ht]
  simp only [Option.bind_some]
  obtain ⟨n, hn, n0, n1⟩ := pick_f hs (p + 1 + 1 + 1) 16 (by omega) (by omega) k (by omega)
  rw [hn]
  simp only [Option.bind_some]
  obtain ⟨m, rfl⟩ := Int.eq_ofNat_of_zero_le n0
  obtain ⟨r, q, hr, r0, r1, r2, r3⟩ := drawPath_l0 hs m k [⟨a, b⟩] (p + 1 + 1 + 1 + 1) a b t (by omega) (by omega) (by simp; omega) (by omega) (by omega)
    (fun q hq => by rw [List.mem_singleton.1 hq]; unfold Small; simp only; omega) ⟨a0, a1⟩ ⟨b0, b1⟩ ⟨t0, t1⟩
  exact ⟨r, q, hr, by omega, by omega, by simp at r2; omega, r3⟩
theorem drawTurns_f (l : List Int) (hb : ∀ x ∈ l, (Lit.int .u8 x).wf = true) (k : Nat) (hk : 100 ≤ k) : ∃ r, spec_DrawCodeTurns.f k l = some r ∧ r.length ≤ 17 ∧ ∀ q ∈ r, Small q := by
  obtain ⟨s, ho, hs⟩ := open_f l hb
  obtain ⟨r, q, hr, _, _, r2, r3⟩ := drawPath_f hs 0 (by omega) k hk
  unfold spec_DrawCodeTurns.f
  rw [ho]
  simp only [Option.bind_some]
  rw [hr]
  exact ⟨r, rfl, r2, r3⟩
end Go.Proofs.Ytdacpdhpifocbaa.Q

namespace Go.Proofs.Ytdacpdhpifocbaa.Pure
open Go.RowKit Go.Proofs.Ytdacpdhpifocbaa.P Go.Proofs.Ytdacpdhpifocbaa.Q Go.Proofs.YtdacpdhpifocbaaW.PrintWords Go.Proofs.YtdacpdhpifocbaaW.PrintLast
set_option linter.unusedVariables false
set_option maxHeartbeats 4000000
theorem luPlace_f {p : PT} (h : Small p) (b : Bool) : laws_luPlace.f p.f0 p.f1 b = some ((placeP b p).f0, (placeP b p).f1) := by
  unfold Small at h
  cases b <;> simp only [laws_luPlace.f, laws_luSwap.f, laws_luMirror.f, placeP, swapP, mirrorP, Bool.false_eq_true, if_false, if_true, Option.bind_some]
  rw [w_id (x := 9 - p.f0) (by omega) (by omega)]
theorem luOver_l0 (l : List PT) (b : Bool) (hl : l.length < 1000000) (hs : ∀ p ∈ l, Small p) : ∀ (d k i : Nat) (acc : List PT), l.length - i = d → i ≤ l.length → d < k → acc.length ≤ i →
    laws_luOver.l0 k l b acc (i : Int) = some (acc ++ (l.drop i).map (placeP b)) := by
  intro d
  induction d with
  | zero =>
    intro k i acc hd hi hk ha
    obtain ⟨k, rfl⟩ : ∃ m, k = m + 1 := ⟨k - 1, by omega⟩
    simp only [laws_luOver.l0]
    rw [if_neg (by omega), List.drop_of_length_le (by omega)]
    simp
  | succ d ih =>
    intro k i acc hd hi hk ha
    obtain ⟨k, rfl⟩ : ∃ m, k = m + 1 := ⟨k - 1, by omega⟩
    simp only [laws_luOver.l0]
    rw [if_pos (by omega), if_pos (by omega), rd_nat, luPlace_f (hs _ (mem_g.2 ⟨i, by omega, rfl⟩)) b]
    simp only [Option.bind_some]
    rw [if_pos (by omega), w_succ (by omega), ih k (i + 1) _ (by omega) (by omega) (by omega) (by simp; omega), drop_g (show i < l.length by omega)]
    simp [List.append_assoc]
theorem luOver_f (l : List PT) (b : Bool) (hl : l.length < 1000000) (hs : ∀ p ∈ l, Small p) (k : Nat) (hk : l.length < k) : laws_luOver.f k l b = some (l.map (placeP b)) := by
  have := luOver_l0 l b hl hs l.length k 0 [] rfl (Nat.zero_le _) hk (Nat.zero_le _)
  unfold laws_luOver.f
  simpa using this
theorem luBackward_l0 (l : List PT) (hl : l.length < 1000000) : ∀ (i k : Nat) (acc : List PT), i ≤ l.length → i < k → acc.length + i ≤ l.length →
    laws_luBackward.l0 k l acc ((i : Int) - 1) = some (acc ++ (l.take i).reverse) := by
  intro i
  induction i with
  | zero =>
    intro k acc hi hk ha
    obtain ⟨k, rfl⟩ : ∃ m, k = m + 1 := ⟨k - 1, by omega⟩
    simp only [laws_luBackward.l0]
    rw [if_neg (by omega)]
    simp
  | succ i ih =>
    intro k acc hi hk ha
    obtain ⟨k, rfl⟩ : ∃ m, k = m + 1 := ⟨k - 1, by omega⟩
    simp only [laws_luBackward.l0]
    rw [show ((i + 1 : Nat) : Int) - 1 = (i : Int) by omega, if_pos (by omega), if_pos (by omega), if_pos (by omega), if_pos (by omega), rd_nat, pt_eta, w_id (x := (i : Int) - 1) (by omega) (by omega), ih k _ (by omega) (by omega) (by simp; omega)]
    rw [List.take_succ_eq_append_getElem (by omega), List.reverse_append, List.append_assoc, g_eq (by omega)]
    rfl
theorem luBackward_f (l : List PT) (hl : l.length < 1000000) (k : Nat) (hk : l.length < k) : laws_luBackward.f k l = some l.reverse := by
  have := luBackward_l0 l hl l.length k [] (Nat.le_refl _) hk (by simp)
  unfold laws_luBackward.f
  rw [w_id (by omega) (by omega), this]
  simp
theorem FnCodeOver : laws_FnCodeOver.Pure := by
  intro l _ _ hwf
  refine ⟨30000, ?_⟩
  unfold laws_FnCodeOver.f
  by_cases hbig : (l.length : Int) > 1048576
  · rw [if_pos hbig]
  · rw [if_neg hbig]
    obtain ⟨t, ht, t17, tsm⟩ := drawTurns_f l hwf 30000 (by omega)
    have tlen : (codeTurns t).length ≤ t.length := by
      unfold codeTurns
      split
      · have := turnsFrom_len t 0
        unfold turns
        omega
      · simp
    rw [ht]
    simp only [Option.bind_some]
    rw [implCodeTurns t (by omega) _ (by omega), specCodeTurns t (by omega) _ (by omega)]
    simp only [Option.bind_some]
    rw [luSame_self _ (by omega) _ (by omega)]
    simp only [Option.bind_some, if_true]
    rw [show (30000 : Nat) = 29999 + 1 from rfl]
    by_cases hp : IsPath t
    · obtain ⟨r, hr⟩ := turns_head (l := t) (by have := hp.1; omega)
      rw [codeTurns_path hp] at tlen ⊢
      have h1 : 1 ≤ (turns t).length := by rw [hr]; simp
      rw [show (((turns t).length : Int) == 0) = false from beq_eq_false_iff_ne.2 (by omega)]
      simp only [laws_FnCodeOver.j0, Bool.false_eq_true, if_false]
      have hsm : ∀ p ∈ turns t, Small p := fun p hq => tsm p (mem_turns hq)
      have key : ∀ b : Bool, laws_luOver.f 29999 t b = some (t.map (placeP b)) ∧ impl_CodeTurns.f 29999 (t.map (placeP b)) = some ((turns t).map (placeP b)) ∧ laws_luOver.f 29999 (turns t) b = some ((turns t).map (placeP b)) ∧ laws_luSame.f 29999 ((turns t).map (placeP b)) ((turns t).map (placeP b)) = some true := fun b =>
        ⟨luOver_f t b (by omega) tsm _ (by omega), by rw [implCodeTurns _ (by simp; omega) _ (by simp; omega), codeTurns_path (over_path b hp), over_turns], luOver_f _ b (by omega) hsm _ (by omega), luSame_self _ (by simp; omega) _ (by simp; omega)⟩
      obtain ⟨a1, a2, a3, a4⟩ := key false
      obtain ⟨b1, b2, b3, b4⟩ := key true
      rw [a1]
      simp only [Option.bind_some]
      rw [a2]
      simp only [Option.bind_some]
      rw [a3]
      simp only [Option.bind_some]
      rw [a4]
      simp only [Option.bind_some, if_true]
      rw [b1]
      simp only [Option.bind_some]
      rw [b2]
      simp only [Option.bind_some]
      rw [b3]
      simp only [Option.bind_some]
      rw [b4]
      simp only [Option.bind_some, if_true]
      rw [luBackward_f t (by omega) _ (by omega)]
      simp only [Option.bind_some]
      rw [implCodeTurns _ (by simp; omega) _ (by simp; omega), codeTurns_path (back_path hp), back_turns]
      simp only [Option.bind_some]
      rw [luBackward_f _ (by omega) _ (by omega)]
      simp only [Option.bind_some]
      rw [luSame_self _ (by simp; omega) _ (by simp; omega)]
      rfl
    · have h0 : codeTurns t = [] := by unfold codeTurns; rw [if_neg hp]
      rw [h0]
      simp only [List.length_nil, laws_FnCodeOver.j0]
      rw [if_pos (by rfl), specCodeTurns t (by omega) _ (by omega), h0]
      simp only [Option.bind_some]
      rw [luSame_self _ (by simp) _ (by simp)]
      rfl
end Go.Proofs.Ytdacpdhpifocbaa.Pure

