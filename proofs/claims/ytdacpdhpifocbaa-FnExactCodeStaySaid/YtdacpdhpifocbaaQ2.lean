/- Plain facts on what the exact laws do with lists of points: turned over, held against each other, marked. No Go, no memory. -/
import Derived.Test.YtdacpdhpifocbaaQ1
import Derived.Test.YtdacpdhpifocbaaFlawstoPtS
import Derived.Test.YtdacpdhpifocbaaFlawseqPtS
import Derived.Test.YtdacpdhpifocbaaFlawsszPtS
import Derived.Test.YtdacpdhpifocbaaFlawsmarkPtS
import Derived.Test.YtdacpdhpifocbaaFlawsheldPtS
namespace Go.Proofs.Ytdacpdhpifocbaa.Q
open Go.RowKit Go.Proofs.Ytdacpdhpifocbaa.P Go.Proofs.YtdacpdhpifocbaaW.PrintWords Go.Proofs.YtdacpdhpifocbaaW.PrintLast
set_option linter.unusedVariables false

abbrev LP := S42
def conv (p : LP) : PT := ⟨p.f0, p.f1⟩
theorem ext_g {a b : List PT} (h : a.length = b.length) (h' : ∀ j, j < a.length → g a j = g b j) : a = b := by
  apply List.ext_getElem h
  intro i h1 h2
  have := h' i h1
  rwa [g_eq h1, g_eq h2] at this
theorem take_set {α : Type} (l : List α) (i : Nat) (v : α) (h : i < l.length) : (l.set i v).take (i + 1) = l.take i ++ [v] := by
  rw [List.take_succ_eq_append_getElem (by simpa using h)]
  congr 1
  · rw [List.take_set, List.set_eq_of_length_le (by simp; omega)]
  · simp
theorem toPtS_l0 (l : List LP) (hl : l.length < 1000000000000000000) : ∀ (d k i : Nat) (acc : List PT), l.length - i = d → i ≤ l.length → d < k → acc.length = l.length →
    laws_toPtS.l0 k l acc (i : Int) = some (acc.take i ++ (l.drop i).map conv) := by
  intro d
  induction d with
  | zero =>
    intro k i acc hd hi hk ha
    obtain ⟨k, rfl⟩ : ∃ m, k = m + 1 := ⟨k - 1, by omega⟩
    simp only [laws_toPtS.l0]
    rw [if_neg (by omega), List.take_of_length_le (by omega), List.drop_of_length_le (by omega)]
    simp
  | succ d ih =>
    intro k i acc hd hi hk ha
    obtain ⟨k, rfl⟩ : ∃ m, k = m + 1 := ⟨k - 1, by omega⟩
    simp only [laws_toPtS.l0, laws_toPt.f, Option.bind_some]
    rw [if_pos (by omega), if_pos (by omega), if_pos (by omega), w_succ (by omega), ih k (i + 1) _ (by omega) (by omega) (by omega) (by simpa using ha)]
    congr 1
    rw [show ((i : Int)).toNat = i from rfl, take_set _ _ _ (by omega), List.append_assoc]
    congr 1
    rw [List.drop_eq_getElem_cons (show i < l.length by omega)]
    simp only [List.map_cons, conv, rd_T42, Int.toNat_natCast, List.getD_eq_getElem?_getD, List.getElem?_eq_getElem (show i < l.length by omega), Option.getD_some]
    rfl
theorem toPtS_f (l : List LP) (hl : l.length ≤ 17592186044416) (k : Nat) (hk : l.length < k) : laws_toPtS.f k l = some (l.map conv) := by
  unfold laws_toPtS.f
  rw [if_pos (by omega), if_pos (by simpa using hl)]
  have := toPtS_l0 l (by omega) l.length k 0 (List.replicate l.length z38) (by omega) (by omega) (by omega) (by simp)
  rw [show (((l.length : Nat) : Int)).toNat = l.length from rfl]
  rw [show ((0 : Nat) : Int) = 0 from rfl] at this
  rw [this]
  simp
theorem eqPt_f (a b : PT) : laws_eqPt.f a.f0 a.f1 b.f0 b.f1 = some (decide (a = b)) := by
  unfold laws_eqPt.f
  by_cases h0 : a.f0 = b.f0
  · by_cases h1 : a.f1 = b.f1
    · rw [if_pos h0, if_pos h1, decide_eq_true (PT.ext h0 h1)]
    · rw [if_pos h0, if_neg h1, decide_eq_false (fun h => h1 (by rw [h]))]
  · rw [if_neg h0, decide_eq_false (fun h => h0 (by rw [h]))]
theorem eqPtS_l0 (a b : List PT) (hl : a.length < 1000000000000000000) (hab : a.length = b.length) : ∀ (d k i : Nat), a.length - i = d → i ≤ a.length → d < k →
    ∃ r, laws_eqPtS.l0 k a b (i : Int) = some r ∧ (r = true ↔ ∀ j, i ≤ j → j < a.length → g a j = g b j) := by
  intro d
  induction d with
  | zero =>
    intro k i hd hi hk
    obtain ⟨k, rfl⟩ : ∃ m, k = m + 1 := ⟨k - 1, by omega⟩
    refine ⟨true, ?_, by simp only [true_iff]; intro j h1 h2; omega⟩
    simp only [laws_eqPtS.l0]
    rw [if_neg (by omega)]
  | succ d ih =>
    intro k i hd hi hk
    obtain ⟨k, rfl⟩ : ∃ m, k = m + 1 := ⟨k - 1, by omega⟩
    simp only [laws_eqPtS.l0]
    rw [if_pos (by omega), if_pos (by omega), if_pos (by omega), rd_nat, rd_nat, eqPt_f]
    simp only [Option.bind_some, decide_eq_true_eq]
    by_cases h : g a i = g b i
    · rw [if_pos h, w_succ (by omega)]
      obtain ⟨r, hr, hr'⟩ := ih k (i + 1) (by omega) (by omega) (by omega)
      refine ⟨r, hr, hr'.trans ⟨fun q j h1 h2 => ?_, fun q j h1 h2 => q j (by omega) h2⟩⟩
      rcases Nat.eq_or_lt_of_le h1 with e | e
      · subst e; exact h
      · exact q j e h2
    · rw [if_neg h]
      exact ⟨false, rfl, by simp only [Bool.false_eq_true, false_iff]; exact fun q => h (q i (Nat.le_refl _) (by omega))⟩
theorem eqPtS_f (a b : List PT) (hl : a.length < 1000000000000000000) (k : Nat) (hk : a.length < k) : laws_eqPtS.f k a b = some (decide (a = b)) := by
  unfold laws_eqPtS.f
  by_cases h : a.length = b.length
  · rw [if_pos (by omega)]
    obtain ⟨r, hr, hr'⟩ := eqPtS_l0 a b hl h a.length k 0 (by omega) (by omega) (by omega)
    rw [show ((0 : Nat) : Int) = 0 from rfl] at hr
    rw [hr]
    congr 1
    rw [Bool.eq_iff_iff, hr', decide_eq_true_eq]
    exact ⟨fun q => ext_g h (fun j hj => q j (by omega) hj), fun q j _ _ => by rw [q]⟩
  · rw [if_neg (by omega), decide_eq_false (fun e => h (by rw [e]))]
theorem eqPtS_self (a : List PT) (hl : a.length < 1000000000000000000) (k : Nat) (hk : a.length < k) : laws_eqPtS.f k a a = some true := by rw [eqPtS_f a a hl k hk]; simp
/-- what marking lays -/
def marks (c : Int) (n : Nat) : List PT := (List.range n).map fun (j : Nat) => ⟨c + 2 * (j : Int), c + 2 * (j : Int) + 1⟩
theorem marks_succ (c : Int) (n : Nat) : marks c (n + 1) = ⟨c, c + 1⟩ :: marks (c + 2) n := by
  unfold marks
  rw [List.range_succ_eq_map, List.map_cons, List.map_map]
  congr 1
  · simp
  · apply List.map_congr_left
    intro j _
    simp only [Function.comp, PT]
    congr 1
    · omega
    · omega
theorem marks_length (c : Int) (n : Nat) : (marks c n).length = n := by simp [marks]
theorem markPtS_l0 : ∀ (d k i : Nat) (x : List PT) (c : Int), x.length - i = d → i ≤ x.length → d < k → x.length < 1000000000000000000 → 0 ≤ c → c < 2000000000000000000 - 2 * (x.length - i : Nat) →
    laws_markPtS.l0 k x c (i : Int) = some (c + 2 * (d : Int), x.take i ++ marks c d) := by
  intro d
  induction d with
  | zero =>
    intro k i x c hd hi hk hl h0 h1
    obtain ⟨k, rfl⟩ : ∃ m, k = m + 1 := ⟨k - 1, by omega⟩
    simp only [laws_markPtS.l0]
    rw [if_neg (by omega), List.take_of_length_le (by omega)]
    simp [marks]
  | succ d ih =>
    intro k i x c hd hi hk hl h0 h1
    obtain ⟨k, rfl⟩ : ∃ m, k = m + 1 := ⟨k - 1, by omega⟩
    simp only [laws_markPtS.l0, Option.bind_some]
    rw [if_pos (by omega), if_pos (by omega), w_succ (by omega), w_id (x := c + 1) (by omega) (by omega), w_id (x := c + 1 + 1) (by omega) (by omega)]
    simp only [Int.toNat_natCast, List.set_set]
    rw [ih k (i + 1) _ (c + 1 + 1) (by simp; omega) (by simp; omega) (by omega) (by simpa using hl) (by omega) (by simp only [List.length_set]; omega)]
    congr 1
    refine Prod.ext (by simp only; omega) ?_
    simp only
    rw [take_set _ _ _ (by omega), List.append_assoc, marks_succ, show c + 1 + 1 = c + 2 by omega]
    simp [rd_T38, show i < x.length by omega]
theorem markPtS_f (x : List PT) (hl : x.length < 100000000000000000) (k : Nat) (hk : x.length < k) : laws_markPtS.f k x 1 = some (1 + 2 * (x.length : Int), marks 1 x.length) := by
  have := markPtS_l0 x.length k 0 x 1 (by omega) (by omega) hk (by omega) (by omega) (by omega)
  unfold laws_markPtS.f
  rw [show (0 : Int) = ((0 : Nat) : Int) from rfl, this]
  simp
theorem heldPtS_l0 : ∀ (d k i : Nat) (x : List PT) (c : Int), x.length - i = d → i ≤ x.length → d < k → x.length < 1000000000000000000 → 0 ≤ c → c < 2000000000000000000 - 2 * (x.length - i : Nat) → x.drop i = marks c d →
    laws_heldPtS.l0 k x c (i : Int) = some (c + 2 * (d : Int)) := by
  intro d
  induction d with
  | zero =>
    intro k i x c hd hi hk hl h0 h1 hx
    obtain ⟨k, rfl⟩ : ∃ m, k = m + 1 := ⟨k - 1, by omega⟩
    simp only [laws_heldPtS.l0]
    rw [if_neg (by omega)]
    simp
  | succ d ih =>
    intro k i x c hd hi hk hl h0 h1 hx
    obtain ⟨k, rfl⟩ : ∃ m, k = m + 1 := ⟨k - 1, by omega⟩
    rw [marks_succ, List.drop_eq_getElem_cons (show i < x.length by omega)] at hx
    obtain ⟨hx0, hx1⟩ := List.cons.inj hx
    simp only [laws_heldPtS.l0]
    rw [if_pos (by omega), if_pos (by omega), rd_nat, g_eq (by omega), hx0, if_pos rfl, w_id (x := c + 1) (by omega) (by omega), if_pos rfl, w_succ (by omega), w_id (x := c + 1 + 1) (by omega) (by omega), show c + 1 + 1 = c + 2 by omega,
      ih k (i + 1) x (c + 2) (by omega) (by omega) (by omega) hl (by omega) (by omega) hx1]
    congr 1
    omega
theorem heldPtS_f (n : Nat) (hl : n < 100000000000000000) (k : Nat) (hk : n < k) : laws_heldPtS.f k (marks 1 n) 1 = some (1 + 2 * (n : Int)) := by
  have := heldPtS_l0 n k 0 (marks 1 n) 1 (by rw [marks_length]; omega) (by omega) hk (by rw [marks_length]; omega) (by omega) (by rw [marks_length]; omega) (by simp)
  unfold laws_heldPtS.f
  rw [show (0 : Int) = ((0 : Nat) : Int) from rfl, this]
theorem szPtS_f (l : List LP) (hl : l.length < 1000000000000000000) : (1048576 < l.length ∧ laws_szPtS.f l 1048576 = some (-1)) ∨ (l.length ≤ 1048576 ∧ ∃ r, laws_szPtS.f l 1048576 = some r ∧ ¬ r < 0) := by
  unfold laws_szPtS.f
  rw [w_id (by omega) (by omega)]
  by_cases h : (1048576 : Int) - (l.length : Int) < 0
  · rw [if_pos h]; exact .inl ⟨by omega, rfl⟩
  · rw [if_neg h]; exact .inr ⟨by omega, _, rfl, h⟩
end Go.Proofs.Ytdacpdhpifocbaa.Q
