-- made by the session's own program out of the kit's print
import Derived.Test.YtdacpdhpifocbaaF0
import Derived.Test.YtdacpdhpifocbaaFeq38
namespace Go.Proofs.Ytdacpdhpifocbaa.P
open Go.RowKit Go.Proofs.YtdacpdhpifocbaaW.PrintWords Go.Proofs.YtdacpdhpifocbaaW.PrintLast Go.Proofs.YtdacpdhpifocbaaW.PrintMore
attribute [local go_sem] max2_int min2_int max_two min_two max_three min_three max_four min_four   -- for this text's walks alone
set_option linter.unusedVariables false
set_option linter.unusedSimpArgs false

attribute [local go_sem high] eqA38
/-! ### impl_isStep: function 46 -/
theorem impl_stepsFrom.calls (x y : Int) (w : World) :
    Calls Try.prog 51 #[.agg #[.int .i64 x, .int .i64 y]] w fun e w' => e = .returned (.agg #[.int .i64 (wrap64 (x + 1)), .int .i64 y, .int .i64 x, .int .i64 (wrap64 (y + 1)), .int .i64 (wrap64 (x - 1)), .int .i64 y, .int .i64 x, .int .i64 (wrap64 (y - 1))]) ∧ Below w.heap.size w w' := by
  go_enter Try.func51, Try.ntmps51
  go_wp2
  exact bodyPost_ret (v := .agg #[.int .i64 (wrap64 (x + 1)), .int .i64 y, .int .i64 x, .int .i64 (wrap64 (y + 1)), .int .i64 (wrap64 (x - 1)), .int .i64 y, .int .i64 x, .int .i64 (wrap64 (y - 1))]) (by simp [results, Try.results51, go_sem]) rfl ⟨rfl, ((Below.refl _ _).alloc (by simp) _).alloc (by simp) _⟩

theorem bcell {W w1 : World} (hb : Below W.heap.size W w1) : (∀ b o, b < W.heap.size → w1.cell? ⟨b, o, none⟩ = W.cell? ⟨b, o, none⟩) ∧ (∀ b o, b < W.heap.size → w1.frozen? ⟨b, o, none⟩ = W.frozen? ⟨b, o, none⟩) :=
  ⟨fun b o h => hb.cell (p := ⟨b, o, none⟩) h, fun b o h => hb.frozen (p := ⟨b, o, none⟩) h⟩

def impl_isStep.f (a0_0 a0_1 a1_0 a1_1 : Int) : Option Bool := some ((wrap64 (a0_0 + 1) == a1_0 && a0_1 == a1_1) || ((a0_0 == a1_0 && wrap64 (a0_1 + 1) == a1_1) || ((wrap64 (a0_0 - 1) == a1_0 && a0_1 == a1_1) || (a0_0 == a1_0 && wrap64 (a0_1 - 1) == a1_1))))
theorem impl_isStep.end1 {a b c d : Int} {r : Bool} (h : impl_isStep.f a b c d = some r) (h1 : (wrap64 (a + 1) == c) = true ∧ (b == d) = true) : Ending.returned (.bool true) = .returned (.bool r) := by
  obtain rfl := Option.some.inj h
  simp only [h1.1, h1.2, Bool.and_self, Bool.true_or]
theorem impl_isStep.end2 {a b c d : Int} {r : Bool} (h : impl_isStep.f a b c d = some r) (h1 : (a == c) = true ∧ (wrap64 (b + 1) == d) = true) : Ending.returned (.bool true) = .returned (.bool r) := by
  obtain rfl := Option.some.inj h
  simp only [h1.1, h1.2, Bool.and_self, Bool.true_or, Bool.or_true]
theorem impl_isStep.end3 {a b c d : Int} {r : Bool} (h : impl_isStep.f a b c d = some r) (h1 : (wrap64 (a - 1) == c) = true ∧ (b == d) = true) : Ending.returned (.bool true) = .returned (.bool r) := by
  obtain rfl := Option.some.inj h
  simp only [h1.1, h1.2, Bool.and_self, Bool.true_or, Bool.or_true]
theorem impl_isStep.end4 {a b c d : Int} {r : Bool} (h : impl_isStep.f a b c d = some r) (h1 : (a == c) = true ∧ (wrap64 (b - 1) == d) = true) : Ending.returned (.bool true) = .returned (.bool r) := by
  obtain rfl := Option.some.inj h
  simp only [h1.1, h1.2, Bool.and_self, Bool.true_or, Bool.or_true]
theorem impl_isStep.end5 {a b c d : Int} {r : Bool} (h : impl_isStep.f a b c d = some r) (h1 : (wrap64 (a + 1) == c) = false ∨ (b == d) = false) (h2 : (a == c) = false ∨ (wrap64 (b + 1) == d) = false)
    (h3 : (wrap64 (a - 1) == c) = false ∨ (b == d) = false) (h4 : (a == c) = false ∨ (wrap64 (b - 1) == d) = false) : Ending.returned (.bool false) = .returned (.bool r) := by
  obtain rfl := Option.some.inj h
  rw [show (wrap64 (a + 1) == c && b == d) = false by rcases h1 with h | h <;> simp [h], show (a == c && wrap64 (b + 1) == d) = false by rcases h2 with h | h <;> simp [h],
    show (wrap64 (a - 1) == c && b == d) = false by rcases h3 with h | h <;> simp [h], show (a == c && wrap64 (b - 1) == d) = false by rcases h4 with h | h <;> simp [h]]
  rfl

set_option maxHeartbeats 400000 in
theorem impl_isStep.calls (a0_0 a0_1 a1_0 a1_1 : Int) (r : Bool) (w : World) (h : impl_isStep.f a0_0 a0_1 a1_0 a1_1 = some r) :
    Calls Try.prog 46 #[.agg #[.int .i64 a0_0, .int .i64 a0_1], .agg #[.int .i64 a1_0, .int .i64 a1_1]] w fun e w' => e = .returned (.bool r) ∧ Below w.heap.size w w' := by
  have H := Aside0.mk h
  clear h
  have ix : ∀ (x0 y0 x1 y1 x2 y2 x3 y3 : Int) (w : World), (Instr.index 59 (.agg #[.int .i64 x0, .int .i64 y0, .int .i64 x1, .int .i64 y1, .int .i64 x2, .int .i64 y2, .int .i64 x3, .int .i64 y3]) (.int .i64 0)).run Try.prog w = .ok (.agg #[.int .i64 x0, .int .i64 y0]) w := fun _ _ _ _ _ _ _ _ _ => by kernel_rfl
  have ix1 : ∀ (x0 y0 x1 y1 x2 y2 x3 y3 : Int) (w : World), (Instr.index 59 (.agg #[.int .i64 x0, .int .i64 y0, .int .i64 x1, .int .i64 y1, .int .i64 x2, .int .i64 y2, .int .i64 x3, .int .i64 y3]) (.int .i64 1)).run Try.prog w = .ok (.agg #[.int .i64 x1, .int .i64 y1]) w := fun _ _ _ _ _ _ _ _ _ => by kernel_rfl
  have ix2 : ∀ (x0 y0 x1 y1 x2 y2 x3 y3 : Int) (w : World), (Instr.index 59 (.agg #[.int .i64 x0, .int .i64 y0, .int .i64 x1, .int .i64 y1, .int .i64 x2, .int .i64 y2, .int .i64 x3, .int .i64 y3]) (.int .i64 2)).run Try.prog w = .ok (.agg #[.int .i64 x2, .int .i64 y2]) w := fun _ _ _ _ _ _ _ _ _ => by kernel_rfl
  have ix3 : ∀ (x0 y0 x1 y1 x2 y2 x3 y3 : Int) (w : World), (Instr.index 59 (.agg #[.int .i64 x0, .int .i64 y0, .int .i64 x1, .int .i64 y1, .int .i64 x2, .int .i64 y2, .int .i64 x3, .int .i64 y3]) (.int .i64 3)).run Try.prog w = .ok (.agg #[.int .i64 x3, .int .i64 y3]) w := fun _ _ _ _ _ _ _ _ _ => by kernel_rfl
  go_enter Try.func46, Try.ntmps46
  go_wp2_with (go_at_call 51; refine (impl_stepsFrom.calls _ _ _).mono ?_; rintro e w1 ⟨rfl, hb⟩)
  have HB := Aside0.mk (below_then (((Below.refl w.heap.size w).alloc (Nat.le_refl _) _).alloc (by simp) _) (by simp <;> omega) hb)
  obtain ⟨hc, hf⟩ := bcell hb
  have hz : w.heap.size + 1 < w1.heap.size := by have := hb.size; simp at this; omega
  have hz0 : w.heap.size < w1.heap.size := by omega
  have hz1 : w.heap.size < w1.heap.size + 1 := by omega
  have hz2 : w.heap.size < w1.heap.size + 1 + 1 := by omega
  go_rounds 5
  all_goals
    go_ret
    refine ⟨by first | exact impl_isStep.end1 H.out ‹_› | exact impl_isStep.end2 H.out ‹_› | exact impl_isStep.end3 H.out ‹_› | exact impl_isStep.end4 H.out ‹_› | exact impl_isStep.end5 H.out ‹_› ‹_› ‹_› ‹_›, ?_⟩
    repeat (first | exact HB.out | apply below_alloc)

end Go.Proofs.Ytdacpdhpifocbaa.P
