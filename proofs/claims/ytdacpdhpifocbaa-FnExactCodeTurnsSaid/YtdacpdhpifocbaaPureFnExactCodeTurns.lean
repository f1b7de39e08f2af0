/- The exact law of CodeTurns in plain Lean: for every list of points the printed law answers true. -/
import Derived.Test.YtdacpdhpifocbaaQ2
import Derived.Test.YtdacpdhpifocbaaFlawsFnExactCodeTurns
namespace Go.Proofs.Ytdacpdhpifocbaa.Q
open Go.RowKit Go.Proofs.Ytdacpdhpifocbaa.P Go.Proofs.YtdacpdhpifocbaaW.PrintWords Go.Proofs.YtdacpdhpifocbaaW.PrintLast
set_option linter.unusedVariables false

theorem turnsFrom_length (l : List PT) (i : Nat) : (turnsFrom l i).length ≤ l.length - i := by
  unfold turnsFrom
  rw [List.length_map]
  exact Nat.le_trans (List.length_filter_le _ _) (by simp)
theorem codeTurns_length (l : List PT) : (codeTurns l).length ≤ l.length := by
  unfold codeTurns
  split
  · exact turnsFrom_length l 0
  · simp
theorem exactCodeTurns (l : List LP) (hl : l.length * 16 ≤ 140737488351232) : ∃ k, laws_FnExactCodeTurns.f k l = some true := by
  refine ⟨l.length + 10, ?_⟩
  unfold laws_FnExactCodeTurns.f
  rcases szPtS_f l (by omega) with ⟨hgt, h⟩ | ⟨hle, r, h, hr⟩
  · rw [h]
    simp only [Option.bind_some]
    rw [if_pos (by omega)]
  · rw [h]
    simp only [Option.bind_some]
    rw [if_neg hr, toPtS_f l (by omega) _ (by omega)]
    have hc := codeTurns_length (l.map conv)
    have hm : (l.map conv).length = l.length := List.length_map ..
    simp only [Option.bind_some]
    rw [specCodeTurns _ (by omega) _ (by omega), implCodeTurns _ (by omega) _ (by omega)]
    simp only [Option.bind_some]
    rw [eqPtS_self _ (by omega) _ (by omega)]
    simp only [Option.bind_some, if_true]
    rw [eqPtS_self _ (by omega) _ (by omega)]
    simp only [Option.bind_some, if_true]
    rw [markPtS_f _ (by omega) _ (by omega)]
    simp only [Option.bind_some]
    rw [if_neg (by omega), show l.length + 10 = (l.length + 9) + 1 by omega]
    simp only [laws_FnExactCodeTurns.j0, Bool.not_true, Bool.false_eq_true, if_false]
    rw [markPtS_f _ (by omega) _ (by omega)]
    simp only [Option.bind_some]
    rw [heldPtS_f _ (by omega) _ (by omega)]
    simp only [Option.bind_some]
    rw [if_neg (by omega), if_pos trivial, toPtS_f l (by omega) _ (by omega)]
    simp only [Option.bind_some]
    rw [implCodeTurns _ (by omega) _ (by omega)]
    simp only [Option.bind_some]
    rw [eqPtS_self _ (by omega) _ (by omega)]
    simp only [Option.bind_some, if_true]
    rw [if_neg (by omega)]
end Go.Proofs.Ytdacpdhpifocbaa.Q
