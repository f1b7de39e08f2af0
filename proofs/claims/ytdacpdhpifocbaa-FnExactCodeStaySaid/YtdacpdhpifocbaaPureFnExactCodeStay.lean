/- The exact law of CodeStay in plain Lean: for every list of points the printed law answers true. -/
import Derived.Test.YtdacpdhpifocbaaQ2
import Derived.Test.YtdacpdhpifocbaaQ3
import Derived.Test.YtdacpdhpifocbaaFlawsFnExactCodeStay
namespace Go.Proofs.Ytdacpdhpifocbaa.Q
open Go.RowKit Go.Proofs.Ytdacpdhpifocbaa.P Go.Proofs.YtdacpdhpifocbaaW.PrintWords Go.Proofs.YtdacpdhpifocbaaW.PrintLast
set_option linter.unusedVariables false

theorem fin_length (r : Option (List PT)) (acc : List PT) : (fin r acc).1.length ≤ 400 := by
  unfold fin
  cases r with
  | none => simp
  | some l =>
    simp only
    split
    · assumption
    · simp
theorem stay_length (t : List PT) : (stay t).1.length ≤ 400 := by
  unfold stay
  match t with
  | [] => simp
  | a :: r =>
    simp only
    split
    · exact fin_length _ _
    · simp
theorem exactCodeStay (l : List LP) (hl : l.length * 16 ≤ 140737488351232) : ∃ k, laws_FnExactCodeStay.f k l = some true := by
  refine ⟨l.length + 20010, ?_⟩
  unfold laws_FnExactCodeStay.f
  rcases szPtS_f l (by omega) with ⟨hgt, h⟩ | ⟨hle, r, h, hr⟩
  · rw [h]
    simp only [Option.bind_some]
    rw [if_pos (by omega)]
  · rw [h]
    simp only [Option.bind_some]
    rw [if_neg hr, toPtS_f l (by omega) _ (by omega)]
    have hm : (l.map conv).length = l.length := List.length_map ..
    simp only [Option.bind_some]
    rw [specCodeStay _ (by omega) _ (by omega), implCodeStay _ (by omega) _ (by omega)]
    simp only [Option.bind_some]
    have hc := stay_length (l.map conv)
    have hS := implCodeStay (l.map conv) (by omega)
    generalize stay (l.map conv) = s at *
    rw [eqPtS_self _ (by omega) _ (by omega)]
    simp only [Option.bind_some, if_true, bne_self_eq_false]
    rw [show l.length + 20010 = (l.length + 20009) + 1 by omega]
    simp only [laws_FnExactCodeStay.j0, Bool.false_eq_true, if_false]
    rw [toPtS_f l (by omega) _ (by omega)]
    simp only [Option.bind_some]
    rw [eqPtS_self _ (by omega) _ (by omega)]
    simp only [Option.bind_some, if_true]
    rw [markPtS_f _ (by omega) _ (by omega)]
    simp only [Option.bind_some]
    rw [if_neg (by omega), eqPtS_self _ (by omega) _ (by omega)]
    simp only [Option.bind_some, if_true, bne_self_eq_false]
    rw [show l.length + 20009 = (l.length + 20008) + 1 by omega]
    simp only [laws_FnExactCodeStay.j1, Bool.false_eq_true, if_false]
    rw [markPtS_f _ (by omega) _ (by omega)]
    simp only [Option.bind_some]
    rw [heldPtS_f _ (by omega) _ (by omega)]
    simp only [Option.bind_some]
    rw [if_neg (by omega), if_pos trivial, toPtS_f l (by omega) _ (by omega)]
    simp only [Option.bind_some]
    rw [hS _ (by omega)]
    simp only [Option.bind_some]
    rw [eqPtS_self _ (by omega) _ (by omega)]
    simp only [Option.bind_some, if_true, bne_self_eq_false]
    rw [show l.length + 20008 = (l.length + 20007) + 1 by omega]
    simp only [laws_FnExactCodeStay.j2, Bool.false_eq_true, if_false]
    rw [heldPtS_f _ (by omega) _ (by omega)]
    simp only [Option.bind_some]
    rw [if_neg (by omega), if_pos trivial]
end Go.Proofs.Ytdacpdhpifocbaa.Q
