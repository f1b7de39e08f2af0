/- Part 7 of what Stay rests on: contracts of the program's functions and plain facts (the print's texts and the session's own, put together). -/
import Derived.Test.YtdacpdhpifocbaaBStay5
namespace Go.Proofs.Ytdacpdhpifocbaa.Q
open Go.RowKit Go.Proofs.Ytdacpdhpifocbaa.P Go.Proofs.YtdacpdhpifocbaaW.PrintWords Go.Proofs.YtdacpdhpifocbaaW.PrintLast
set_option linter.unusedVariables false

def sgn (a b : Int) : Int := if a < b then 1 else if a > b then -1 else 0
def nxt (a b : PT) : PT := ⟨a.f0 + sgn a.f0 b.f0, a.f1 + sgn a.f1 b.f1⟩
def dist (a b : PT) : Nat := (a.f0 - b.f0).natAbs + (a.f1 - b.f1).natAbs
def leg : Nat → PT → PT → List PT
  | 0, _, _ => []
  | n + 1, a, b => nxt a b :: leg n (nxt a b) b
def InLine (a b : PT) : Prop := a.f0 = b.f0 ∨ a.f1 = b.f1
theorem sgn_spec (a b : Int) : a < b ∧ sgn a b = 1 ∨ b < a ∧ sgn a b = -1 ∨ a = b ∧ sgn a b = 0 := by
  unfold sgn
  by_cases h : a < b
  · rw [if_pos h]; omega
  · rw [if_neg h]
    by_cases h' : a > b
    · rw [if_pos h']; omega
    · rw [if_neg h']; omega
theorem dist_zero {a b : PT} : dist a b = 0 ↔ a = b := by
  unfold dist
  constructor
  · intro h
    exact PT.ext (by omega) (by omega)
  · intro h
    subst h
    omega
theorem nxt_dist {a b : PT} (h : InLine a b) (n : Nat) (hd : dist a b = n + 1) : dist (nxt a b) b = n ∧ InLine (nxt a b) b ∧ Step a (nxt a b) ∧ (n ≠ 0 → sgn (nxt a b).f0 b.f0 = sgn a.f0 b.f0 ∧ sgn (nxt a b).f1 b.f1 = sgn a.f1 b.f1) := by
  unfold dist InLine nxt Step at *
  simp only
  rcases sgn_spec a.f0 b.f0 with ⟨h0, e0⟩ | ⟨h0, e0⟩ | ⟨h0, e0⟩ <;> rcases sgn_spec a.f1 b.f1 with ⟨h1, e1⟩ | ⟨h1, e1⟩ | ⟨h1, e1⟩ <;>
    (try rw [e0]) <;> (try rw [e1]) <;>
    first
      | omega
      | (refine ⟨by omega, by omega, by omega, fun hn => ?_⟩
         rcases sgn_spec (a.f0 + 1) b.f0 with ⟨h2, e2⟩ | ⟨h2, e2⟩ | ⟨h2, e2⟩ <;> rcases sgn_spec (a.f0 + -1) b.f0 with ⟨h3, e3⟩ | ⟨h3, e3⟩ | ⟨h3, e3⟩ <;> rcases sgn_spec (a.f0 + 0) b.f0 with ⟨h4, e4⟩ | ⟨h4, e4⟩ | ⟨h4, e4⟩ <;>
         rcases sgn_spec (a.f1 + 1) b.f1 with ⟨h5, e5⟩ | ⟨h5, e5⟩ | ⟨h5, e5⟩ <;> rcases sgn_spec (a.f1 + -1) b.f1 with ⟨h6, e6⟩ | ⟨h6, e6⟩ | ⟨h6, e6⟩ <;> rcases sgn_spec (a.f1 + 0) b.f1 with ⟨h7, e7⟩ | ⟨h7, e7⟩ | ⟨h7, e7⟩ <;> omega)
theorem nxt_ok {a b : PT} (ha : okP a = true) (hb : okP b = true) : okP (nxt a b) = true := by
  rw [okP_iff] at *
  unfold nxt
  simp only
  rcases sgn_spec a.f0 b.f0 with ⟨h0, e0⟩ | ⟨h0, e0⟩ | ⟨h0, e0⟩ <;> rcases sgn_spec a.f1 b.f1 with ⟨h1, e1⟩ | ⟨h1, e1⟩ | ⟨h1, e1⟩ <;> rw [e0, e1] <;> omega
theorem ok_dist {a b : PT} (ha : okP a = true) (hb : okP b = true) (h : InLine a b) : dist a b ≤ 9 := by
  rw [okP_iff] at *
  unfold dist InLine at *
  omega
theorem leg_length : ∀ (n : Nat) (a b : PT), (leg n a b).length = n
  | 0, _, _ => rfl
  | n + 1, a, b => by simp [leg, leg_length n]
theorem specSign (x : Int) : spec_l2Sign.f x = some (sgn 0 x) := by
  unfold spec_l2Sign.f sgn
  by_cases h : x < 0
  · rw [if_pos h, if_neg (by omega), if_pos (by omega)]
  · rw [if_neg h]
    by_cases h' : x > 0
    · rw [if_pos h', if_pos (by omega)]
    · rw [if_neg h', if_neg (by omega), if_neg (by omega)]
theorem sgn_sub (a b : Int) : sgn 0 (b - a) = sgn a b := by
  rcases sgn_spec a b with ⟨h0, e0⟩ | ⟨h0, e0⟩ | ⟨h0, e0⟩ <;> rcases sgn_spec 0 (b - a) with ⟨h1, e1⟩ | ⟨h1, e1⟩ | ⟨h1, e1⟩ <;> rw [e0, e1] <;> omega
theorem implToward (a b : Int) : impl_toward.f a b = some (sgn a b) := by
  unfold impl_toward.f sgn
  by_cases h : a < b
  · rw [if_pos h, if_pos h]
  · rw [if_neg h, if_neg h]
    by_cases h' : a > b
    · rw [if_pos h', if_pos h']
    · rw [if_neg h', if_neg h']
theorem ne_bool {a b : PT} : ((!(a.f0 == b.f0) || (!(a.f1 == b.f1))) = true) ↔ a ≠ b := by
  simp only [Bool.or_eq_true, Bool.not_eq_true', beq_eq_false_iff_ne]
  constructor
  · rintro h rfl
    omega
  · intro h
    by_cases h0 : a.f0 = b.f0
    · exact .inr fun h1 => h (PT.ext h0 h1)
    · exact .inl h0
theorem eq_bool {a b : PT} : ((a.f0 == b.f0 && (a.f1 == b.f1)) = true) ↔ a = b := by
  simp only [Bool.and_eq_true, beq_iff_eq]
  exact ⟨fun h => PT.ext h.1 h.2, fun h => by subst h; exact ⟨rfl, rfl⟩⟩
theorem impl_l1 (xs : List PT) (len i : Int) (b : PT) (hb : okP b = true) : ∀ (n m : Nat) (acc : List PT) (a : PT) (x y : Int), okP a = true → InLine a b → dist a b = n → (n ≠ 0 → x = sgn a.f0 b.f0 ∧ y = sgn a.f1 b.f1) → acc.length + n < 8796093022208 →
    impl_CodeStay.l1 (m + n + 1) acc x y xs len i a.f0 a.f1 b.f0 b.f1 = impl_CodeStay.l0 m (acc ++ leg n a b) xs len (wrap64 (i + 1)) b.f0 b.f1 := by
  intro n
  induction n with
  | zero =>
    intro m acc a x y ha hl hd hxy hacc
    obtain rfl := dist_zero.1 hd
    simp only [impl_CodeStay.l1]
    rw [if_neg (by rw [ne_bool]; simp)]
    simp [leg]
  | succ n ih =>
    intro m acc a x y ha hl hd hxy hacc
    obtain ⟨rfl, rfl⟩ := hxy (by omega)
    obtain ⟨h1, h2, h3, h4⟩ := nxt_dist hl n hd
    have hn := nxt_ok ha hb
    have hn' := hn
    rw [okP_iff] at hn'
    obtain ⟨q, hq⟩ : ∃ q, q = m + n + 1 := ⟨_, rfl⟩
    rw [show m + (n + 1) + 1 = q + 1 by omega]
    simp only [impl_CodeStay.l1]
    rw [if_pos (by rw [ne_bool]; intro e; rw [dist_zero.2 e] at hd; omega), if_pos (by omega)]
    have e0 : wrap64 (a.f0 + sgn a.f0 b.f0) = (nxt a b).f0 := by have e : (nxt a b).f0 = a.f0 + sgn a.f0 b.f0 := rfl; rw [e] at hn' ⊢; exact w_id (by omega) (by omega)
    have e1 : wrap64 (a.f1 + sgn a.f1 b.f1) = (nxt a b).f1 := by have e : (nxt a b).f1 = a.f1 + sgn a.f1 b.f1 := rfl; rw [e] at hn' ⊢; exact w_id (by omega) (by omega)
    rw [e0, e1, pt_eta, hq, ih m (acc ++ [nxt a b]) (nxt a b) _ _ hn h2 h1 (fun hn => ⟨(h4 hn).1.symm, (h4 hn).2.symm⟩) (by simp; omega)]
    simp [leg]
theorem spec_l1 (xs : List PT) (i : Int) (b : PT) (hb : okP b = true) : ∀ (n m : Nat) (acc : List PT) (a : PT), okP a = true → InLine a b → dist a b = n → acc.length + n < 8796093022208 →
    spec_l22Stay.l1 (m + n + 1) xs acc i b.f0 b.f1 a.f0 a.f1 = spec_l22Stay.l0 m xs (acc ++ leg n a b) (wrap64 (i + 1)) := by
  intro n
  induction n with
  | zero =>
    intro m acc a ha hl hd hacc
    obtain rfl := dist_zero.1 hd
    simp only [spec_l22Stay.l1]
    rw [if_neg (by rw [ne_bool]; simp)]
    simp [leg]
  | succ n ih =>
    intro m acc a ha hl hd hacc
    obtain ⟨h1, h2, h3, h4⟩ := nxt_dist hl n hd
    have hn := nxt_ok ha hb
    have hn' := hn
    have ha' := ha
    have hb' := hb
    rw [okP_iff] at hn' ha' hb'
    obtain ⟨q, hq⟩ : ∃ q, q = m + n + 1 := ⟨_, rfl⟩
    rw [show m + (n + 1) + 1 = q + 1 by omega]
    simp only [spec_l22Stay.l1]
    rw [if_pos (by rw [ne_bool]; intro e; rw [dist_zero.2 e] at hd; omega), w_id (x := b.f0 - a.f0) (by omega) (by omega), w_id (x := b.f1 - a.f1) (by omega) (by omega), specSign, specSign, sgn_sub, sgn_sub]
    simp only [Option.bind_some]
    rw [if_pos (by omega)]
    have e0 : wrap64 (a.f0 + sgn a.f0 b.f0) = (nxt a b).f0 := by have e : (nxt a b).f0 = a.f0 + sgn a.f0 b.f0 := rfl; rw [e] at hn' ⊢; exact w_id (by omega) (by omega)
    have e1 : wrap64 (a.f1 + sgn a.f1 b.f1) = (nxt a b).f1 := by have e : (nxt a b).f1 = a.f1 + sgn a.f1 b.f1 := rfl; rw [e] at hn' ⊢; exact w_id (by omega) (by omega)
    rw [e0, e1, pt_eta, hq, ih m (acc ++ [nxt a b]) (nxt a b) hn h2 h1 (by simp; omega)]
    simp [leg]
instance (a b : PT) : Decidable (InLine a b) := by unfold InLine; infer_instance
/-- may one stay on a line from a to b -/
def good (a b : PT) : Bool := okP b && decide (a ≠ b) && decide (InLine a b)
def stayGo : PT → List PT → Option (List PT)
  | _, [] => some []
  | a, b :: r => if good a b = true then (stayGo b r).map (leg (dist a b) a b ++ ·) else none
theorem good_iff {a b : PT} : good a b = true ↔ okP b = true ∧ a ≠ b ∧ InLine a b := by simp [good, and_assoc]
def Ends (acc : List PT) (p : PT) : Prop := 0 < acc.length ∧ g acc (acc.length - 1) = p
theorem g_append_left {l r : List PT} {i : Nat} (h : i < l.length) : g (l ++ r) i = g l i := by simp [g, List.getD_eq_getElem?_getD, List.getElem?_append_left h]
theorem g_append_last (l : List PT) (p : PT) : g (l ++ [p]) l.length = p := by simp [g, List.getD_eq_getElem?_getD]
theorem pathTo_snoc {acc : List PT} {a p : PT} (h : PathTo acc 0) (he : Ends acc a) (hp : okP p = true) (hs : Step a p) : PathTo (acc ++ [p]) 0 ∧ Ends (acc ++ [p]) p := by
  constructor
  · intro j _ hj
    simp only [List.length_append, List.length_cons, List.length_nil] at hj
    rcases Nat.lt_or_ge j acc.length with h1 | h1
    · rw [g_append_left h1, g_append_left (by omega)]
      exact h j (by omega) h1
    · obtain rfl : j = acc.length := by omega
      rw [g_append_last, g_append_left (by have := he.1; omega), he.2]
      exact ⟨hp, fun _ => hs⟩
  · refine ⟨by simp, ?_⟩
    rw [show (acc ++ [p]).length - 1 = acc.length by simp]
    exact g_append_last acc p
theorem pathTo_leg (b : PT) (hb : okP b = true) : ∀ (n : Nat) (acc : List PT) (a : PT), okP a = true → InLine a b → dist a b = n → PathTo acc 0 → Ends acc a → PathTo (acc ++ leg n a b) 0 ∧ Ends (acc ++ leg n a b) b := by
  intro n
  induction n with
  | zero =>
    intro acc a ha hl hd hp he
    obtain rfl := dist_zero.1 hd
    simp only [leg, List.append_nil]
    exact ⟨hp, he⟩
  | succ n ih =>
    intro acc a ha hl hd hp he
    obtain ⟨h1, h2, h3, h4⟩ := nxt_dist hl n hd
    obtain ⟨hp', he'⟩ := pathTo_snoc hp he (nxt_ok ha hb) h3
    have := ih (acc ++ [nxt a b]) (nxt a b) (nxt_ok ha hb) h2 h1 hp' he'
    simpa [leg] using this
def fin (r : Option (List PT)) (acc : List PT) : List PT × Bool :=
  match r with
  | none => ([], false)
  | some l => if (acc ++ l).length ≤ 400 then (acc ++ l, true) else ([], false)
theorem fin_map (r : Option (List PT)) (acc l : List PT) : fin (r.map (l ++ ·)) acc = fin r (acc ++ l) := by
  cases r <;> simp [fin, List.append_assoc]
theorem impl_l0 (r : List PT) (hr : r.length ≤ 400) : ∀ (rem : List PT) (k i : Nat) (acc : List PT) (a : PT), r.drop i = rem → i ≤ r.length → okP a = true → PathTo acc 0 → Ends acc a → acc.length ≤ 1 + 9 * i → 20 * rem.length + 4000 ≤ k →
    impl_CodeStay.l0 k acc r (r.length : Int) (i : Int) a.f0 a.f1 = some (fin (stayGo a rem) acc) := by
  intro rem
  induction rem with
  | nil =>
    intro k i acc a hd hi ha hp he hacc hk
    have hlen : r.length ≤ i := by have := congrArg List.length hd; simp at this; omega
    obtain ⟨k, rfl⟩ : ∃ m, k = m + 1 := ⟨k - 1, by omega⟩
    simp only [impl_CodeStay.l0]
    rw [if_neg (by omega)]
    obtain ⟨b, hb, hb'⟩ := isPath_f acc (by omega) k (by simp at hk; omega)
    rw [hb]
    simp only [Option.bind_some, stayGo, fin, List.append_nil]
    have h0 := he.1
    by_cases h : acc.length ≤ 400
    · rw [if_pos (hb'.2 ⟨by omega, h, hp⟩), if_pos h]
    · rw [if_neg (fun hh => h (hb'.1 hh).2.1), if_neg h]
  | cons b rem ih =>
    intro k i acc a hd hi ha hp he hacc hk
    have hlt : i < r.length := by
      rcases Nat.lt_or_ge i r.length with h | h
      · exact h
      · rw [List.drop_of_length_le h] at hd; cases hd
    have hg : g r i = b := by
      rw [List.drop_eq_getElem_cons hlt] at hd
      rw [g_eq hlt]
      exact (List.cons.inj hd).1
    have hdrop : r.drop (i + 1) = rem := by
      rw [List.drop_eq_getElem_cons hlt] at hd
      exact (List.cons.inj hd).2
    simp only [List.length_cons] at hk
    obtain ⟨k, rfl⟩ : ∃ m, k = m + 2 := ⟨k - 2, by omega⟩
    simp only [impl_CodeStay.l0]
    rw [if_pos (by omega), if_pos (by omega), if_pos (by omega), rd_nat, hg, implOk, pt_eta]
    simp only [Option.bind_some, stayGo]
    have hbad : ∀ x0 x1 y0 y1 : Int, impl_CodeStay.j2 (k + 1) acc r (r.length : Int) (i : Int) true x0 x1 y0 y1 = some ([], false) := fun _ _ _ _ => by simp only [impl_CodeStay.j2, if_true]
    have hgo : good a b = true → impl_CodeStay.j2 (k + 1) acc r (r.length : Int) (i : Int) false a.f0 a.f1 b.f0 b.f1 = some (fin ((stayGo b rem).map (leg (dist a b) a b ++ ·)) acc) := fun hgd => by
      obtain ⟨hb, hne, hl⟩ := good_iff.1 hgd
      have h9 := ok_dist ha hb hl
      simp only [impl_CodeStay.j2, Bool.false_eq_true, if_false]
      rw [implToward, implToward]
      simp only [Option.bind_some]
      obtain ⟨m, hm⟩ : ∃ m, k = m + dist a b + 1 := ⟨k - dist a b - 1, by omega⟩
      obtain ⟨hp', he'⟩ := pathTo_leg b hb _ acc a ha hl rfl hp he
      rw [hm, impl_l1 r _ _ b hb (dist a b) m acc a _ _ ha hl rfl (fun _ => ⟨rfl, rfl⟩) (by omega), w_succ (by omega),
        ih m (i + 1) (acc ++ leg (dist a b) a b) b hdrop (by omega) hb hp' he' (by rw [List.length_append, leg_length]; omega) (by omega), fin_map]
    by_cases hok : okP b = true
    · rw [if_pos hok]
      by_cases heq : a = b
      · subst heq
        rw [if_pos (by rw [eq_bool]), hbad, if_neg (by rw [good_iff]; simp)]
        rfl
      · rw [if_neg (by rw [eq_bool]; exact fun e => heq e.symm)]
        by_cases hx : b.f0 = a.f0
        · have hgd : good a b = true := good_iff.2 ⟨hok, heq, .inl hx.symm⟩
          rw [if_pos hx, hgo hgd, if_pos hgd]
        · rw [if_neg hx]
          by_cases hy : b.f1 = a.f1
          · have hgd : good a b = true := good_iff.2 ⟨hok, heq, .inr hy.symm⟩
            rw [show (b.f1 != a.f1) = false by simp [hy], hgo hgd, if_pos hgd]
          · rw [show (b.f1 != a.f1) = true by simp [hy], hbad, if_neg (by rw [good_iff]; unfold InLine; omega)]
            rfl
    · rw [if_neg hok, hbad, if_neg (by rw [good_iff]; exact fun h => hok h.1)]
      rfl
theorem spec_l0 (r : List PT) (hr : r.length ≤ 400) : ∀ (rem : List PT) (k i : Nat) (acc : List PT), 1 ≤ i → r.drop i = rem → i ≤ r.length → okP (g r (i - 1)) = true → acc.length ≤ 1 + 9 * i → 20 * rem.length + 4000 ≤ k →
    spec_l22Stay.l0 k r acc (i : Int) = some (fin (stayGo (g r (i - 1)) rem) acc) := by
  intro rem
  induction rem with
  | nil =>
    intro k i acc h1 hd hi ha hacc hk
    have hlen : r.length ≤ i := by have := congrArg List.length hd; simp at this; omega
    obtain ⟨k, rfl⟩ : ∃ m, k = m + 1 := ⟨k - 1, by omega⟩
    simp only [spec_l22Stay.l0]
    rw [if_neg (by omega)]
    simp only [stayGo, fin, List.append_nil]
    by_cases h : acc.length ≤ 400
    · rw [if_neg (by omega), if_pos h]
    · rw [if_pos (by omega), if_neg h]
  | cons b rem ih =>
    intro k i acc h1 hd hi ha hacc hk
    have hlt : i < r.length := by
      rcases Nat.lt_or_ge i r.length with h | h
      · exact h
      · rw [List.drop_of_length_le h] at hd; cases hd
    have hg : g r i = b := by
      rw [List.drop_eq_getElem_cons hlt] at hd
      rw [g_eq hlt]
      exact (List.cons.inj hd).1
    have hdrop : r.drop (i + 1) = rem := by
      rw [List.drop_eq_getElem_cons hlt] at hd
      exact (List.cons.inj hd).2
    simp only [List.length_cons] at hk
    obtain ⟨k, rfl⟩ : ∃ m, k = m + 2 := ⟨k - 2, by omega⟩
    simp only [spec_l22Stay.l0]
    rw [if_pos (by omega), if_pos (by omega), w_pred (by omega) (by omega), if_pos (by omega), if_pos (by omega), rd_nat, rd_nat, hg, specOk, pt_eta]
    generalize g r (i - 1) = a at *
    simp only [Option.bind_some, stayGo]
    have hbad : ∀ x0 x1 y0 y1 : Int, spec_l22Stay.j2 (k + 1) r acc (i : Int) true x0 x1 y0 y1 = some ([], false) := fun _ _ _ _ => by simp only [spec_l22Stay.j2, if_true]
    have hgo : good a b = true → spec_l22Stay.j2 (k + 1) r acc (i : Int) false b.f0 b.f1 a.f0 a.f1 = some (fin ((stayGo b rem).map (leg (dist a b) a b ++ ·)) acc) := fun hgd => by
      obtain ⟨hb, hne, hl⟩ := good_iff.1 hgd
      have h9 := ok_dist ha hb hl
      simp only [spec_l22Stay.j2, Bool.false_eq_true, if_false]
      obtain ⟨m, hm⟩ : ∃ m, k = m + dist a b + 1 := ⟨k - dist a b - 1, by omega⟩
      have hih := ih m (i + 1) (acc ++ leg (dist a b) a b) (by omega) hdrop (by omega) (by rw [show i + 1 - 1 = i by omega, hg]; exact hb) (by rw [List.length_append, leg_length]; omega) (by omega)
      rw [show i + 1 - 1 = i by omega, hg] at hih
      rw [hm, spec_l1 r _ b hb (dist a b) m acc a ha hl rfl (by omega), w_succ (by omega), hih, fin_map]
    by_cases hok : okP b = true
    · rw [if_pos hok]
      by_cases heq : a = b
      · subst heq
        rw [if_pos (by rw [eq_bool]), hbad, if_neg (by rw [good_iff]; simp)]
        rfl
      · rw [if_neg (by rw [eq_bool]; exact fun e => heq e.symm)]
        by_cases hx : b.f0 = a.f0
        · have hgd : good a b = true := good_iff.2 ⟨hok, heq, .inl hx.symm⟩
          rw [if_pos hx, hgo hgd, if_pos hgd]
        · rw [if_neg hx]
          by_cases hy : b.f1 = a.f1
          · have hgd : good a b = true := good_iff.2 ⟨hok, heq, .inr hy.symm⟩
            rw [show (b.f1 != a.f1) = false by simp [hy], hgo hgd, if_pos hgd]
          · rw [show (b.f1 != a.f1) = true by simp [hy], hbad, if_neg (by rw [good_iff]; unfold InLine; omega)]
            rfl
    · rw [if_neg hok, hbad, if_neg (by rw [good_iff]; exact fun h => hok h.1)]
      rfl
/-- what CodeStay answers -/
def stay (t : List PT) : List PT × Bool :=
  match t with
  | [] => ([], false)
  | a :: r => if r.length ≤ 399 ∧ okP a = true then fin (stayGo a r) [a] else ([], false)
theorem one_path {a : PT} (ha : okP a = true) : PathTo [a] 0 ∧ Ends [a] a := by
  refine ⟨fun j _ hj => ?_, by simp [Ends, g]⟩
  obtain rfl : j = 0 := by simpa using hj
  exact ⟨by simpa [g] using ha, fun h => absurd h (by omega)⟩
theorem implCodeStay (t : List PT) (hl : t.length < 1000000000000000000) (k : Nat) (hk : 20000 ≤ k) : impl_CodeStay.f k t = some (stay t) := by
  obtain ⟨k, rfl⟩ : ∃ m, k = m + 1 := ⟨k - 1, by omega⟩
  have hbad : impl_CodeStay.j0 (k + 1) t true = some ([], false) := by simp only [impl_CodeStay.j0, if_true]
  unfold impl_CodeStay.f
  match t, hl, hbad with
  | [], hl, hbad =>
    rw [if_pos (by simp), hbad]
    rfl
  | a :: r, hl, hbad =>
    rw [if_neg (by simp only [List.length_cons]; omega)]
    simp only [List.length_cons] at hl
    by_cases h4 : r.length ≤ 399
    · rw [if_neg (by simp only [List.length_cons]; omega), if_pos (by simp only [List.length_cons]; omega), rd_zero, show g (a :: r) 0 = a from rfl, implOk, pt_eta]
      simp only [Option.bind_some, stay]
      by_cases hok : okP a = true
      · rw [if_pos ⟨h4, hok⟩, hok]
        simp only [impl_CodeStay.j0, Bool.not_true, Bool.false_eq_true, if_false]
        rw [if_pos (by simp only [List.length_cons]; omega), if_pos (by simp only [List.length_cons]; omega), rd_zero, show g (a :: r) 0 = a from rfl, pt_eta]
        simp only [Option.bind_some, List.drop_succ_cons, List.drop_zero]
        obtain ⟨hp, he⟩ := one_path hok
        exact impl_l0 r (by omega) r k 0 [a] a rfl (by omega) hok hp he (by simp) (by omega)
      · rw [if_neg (fun h => hok h.2), show okP a = false by simpa using hok]
        exact hbad
    · rw [if_pos (by simp only [List.length_cons]; omega), hbad]
      simp only [stay]
      rw [if_neg (fun h => h4 h.1)]
theorem specStay (t : List PT) (hl : t.length < 1000000000000000000) (k : Nat) (hk : 20000 ≤ k) : spec_l22Stay.f k t = some (stay t) := by
  obtain ⟨k, rfl⟩ : ∃ m, k = m + 1 := ⟨k - 1, by omega⟩
  have hbad : spec_l22Stay.j0 (k + 1) t true = some ([], false) := by simp only [spec_l22Stay.j0, if_true]
  unfold spec_l22Stay.f
  rw [specIn]
  simp only [Option.bind_some]
  match t, hl, hbad with
  | [], hl, hbad =>
    rw [if_neg (by simp), hbad]
    rfl
  | a :: r, hl, hbad =>
    simp only [List.length_cons] at hl
    by_cases h4 : r.length ≤ 399
    · rw [if_pos (by rw [decide_eq_true_eq]; simp only [List.length_cons]; omega), if_pos (by simp only [List.length_cons]; omega), rd_zero, show g (a :: r) 0 = a from rfl, specOk, pt_eta]
      simp only [Option.bind_some, stay]
      by_cases hok : okP a = true
      · rw [if_pos ⟨h4, hok⟩, hok]
        simp only [spec_l22Stay.j0, Bool.not_true, Bool.false_eq_true, if_false]
        rw [if_pos (by simp only [List.length_cons]; omega), rd_zero, show g (a :: r) 0 = a from rfl, pt_eta]
        have := spec_l0 (a :: r) (by simp only [List.length_cons]; omega) r k 1 [a] (by omega) rfl (by simp) hok (by simp) (by omega)
        exact this
      · rw [if_neg (fun h => hok h.2), show okP a = false by simpa using hok]
        exact hbad
    · rw [if_neg (by rw [decide_eq_true_eq]; simp only [List.length_cons]; omega), hbad]
      simp only [stay]
      rw [if_neg (fun h => h4 h.1)]
theorem specCodeStay (t : List PT) (hl : t.length < 1000000000000000000) (k : Nat) (hk : 20000 ≤ k) : spec_CodeStay.f k t = some (stay t) := by
  unfold spec_CodeStay.f
  rw [specStay t hl k hk]
  rfl
end Go.Proofs.Ytdacpdhpifocbaa.Q

namespace Go.Proofs.Ytdacpdhpifocbaa.Q
open Go.RowKit Go.Proofs.Ytdacpdhpifocbaa.P Go.Proofs.YtdacpdhpifocbaaW.PrintWords Go.Proofs.YtdacpdhpifocbaaW.PrintLast
set_option linter.unusedVariables false

theorem extend {a b c : PT} {n : Nat} (hl : InLine b c) (hd : dist b c = n + 1) (hs : Step a b) (h0 : (nxt b c).f0 - b.f0 = b.f0 - a.f0) (h1 : (nxt b c).f1 - b.f1 = b.f1 - a.f1) :
    InLine a c ∧ dist a c = n + 2 ∧ nxt a c = b ∧ a ≠ c := by
  have e0 : (nxt b c).f0 = b.f0 + sgn b.f0 c.f0 := rfl
  have e1 : (nxt b c).f1 = b.f1 + sgn b.f1 c.f1 := rfl
  rw [e0] at h0
  rw [e1] at h1
  have key : InLine a c ∧ dist a c = n + 2 ∧ (a.f0 + sgn a.f0 c.f0 = b.f0 ∧ a.f1 + sgn a.f1 c.f1 = b.f1) := by
    unfold dist InLine Step at *
    rcases sgn_spec b.f0 c.f0 with ⟨p, e⟩ | ⟨p, e⟩ | ⟨p, e⟩ <;> rcases sgn_spec b.f1 c.f1 with ⟨p', e'⟩ | ⟨p', e'⟩ | ⟨p', e'⟩ <;> rw [e] at h0 <;> rw [e'] at h1 <;>
      rcases sgn_spec a.f0 c.f0 with ⟨q, f⟩ | ⟨q, f⟩ | ⟨q, f⟩ <;> rcases sgn_spec a.f1 c.f1 with ⟨q', f'⟩ | ⟨q', f'⟩ | ⟨q', f'⟩ <;> rw [f, f'] <;> omega
  refine ⟨key.1, key.2.1, PT.ext key.2.2.1 key.2.2.2, fun e => ?_⟩
  rw [dist_zero.2 e] at key
  omega
theorem step_nxt {a b : PT} (hs : Step a b) : InLine a b ∧ dist a b = 1 ∧ nxt a b = b ∧ a ≠ b := by
  have key : InLine a b ∧ dist a b = 1 ∧ (a.f0 + sgn a.f0 b.f0 = b.f0 ∧ a.f1 + sgn a.f1 b.f1 = b.f1) := by
    unfold dist InLine Step at *
    rcases sgn_spec a.f0 b.f0 with ⟨q, f⟩ | ⟨q, f⟩ | ⟨q, f⟩ <;> rcases sgn_spec a.f1 b.f1 with ⟨q', f'⟩ | ⟨q', f'⟩ | ⟨q', f'⟩ <;> rw [f, f'] <;> omega
  refine ⟨key.1, key.2.1, PT.ext key.2.2.1 key.2.2.2, fun e => ?_⟩
  rw [dist_zero.2 e] at key
  omega
theorem drop_g {l : List PT} {i : Nat} (h : i < l.length) : l.drop i = g l i :: l.drop (i + 1) := by rw [List.drop_eq_getElem_cons h, g_eq h]
/-- From each point of a path on, what is between its turns is the path. -/
theorem stayGo_turns (l : List PT) (hp : PathTo l 0) : ∀ (d i : Nat), l.length - i = d + 1 → stayGo (g l i) (turnsFrom l (i + 1)) = some (l.drop (i + 1)) := by
  intro d
  induction d with
  | zero =>
    intro i hd
    rw [turnsFrom_end l (i + 1) (by omega), List.drop_of_length_le (by omega)]
    rfl
  | succ d ih =>
    intro i hd
    have hs : Step (g l i) (g l (i + 1)) := (hp (i + 1) (by omega) (by omega)).2 (by omega)
    have hb := (hp (i + 1) (by omega) (by omega)).1
    have h := ih (i + 1) (by omega)
    rw [turnsFrom_step l (i + 1) (by omega)]
    by_cases ht : turnAt l (i + 1) = true
    · rw [if_pos ht, List.singleton_append]
      obtain ⟨h1, h2, h3, h4⟩ := step_nxt hs
      simp only [stayGo]
      rw [if_pos (good_iff.2 ⟨hb, h4, h1⟩), h, h2]
      simp only [leg, Option.map_some, h3, List.singleton_append]
      rw [drop_g (show i + 1 < l.length by omega)]
    · rw [if_neg ht, List.nil_append]
      have hlast : i + 1 + 1 < l.length := by
        rcases Nat.lt_or_ge (i + 1 + 1) l.length with h' | h'
        · exact h'
        · exact absurd (show turnAt l (i + 1) = true by simp [turnAt]; omega) ht
      have hg : goesOn (g l i) (g l (i + 1)) (g l (i + 1 + 1)) = true := by
        simp only [turnAt, Bool.or_eq_true, Bool.not_eq_true', not_or] at ht
        simpa using ht.2
      simp only [goesOn, Bool.and_eq_true, beq_iff_eq] at hg
      rw [drop_g hlast] at h
      cases hc : turnsFrom l (i + 1 + 1) with
      | nil =>
        rw [hc] at h
        simp [stayGo] at h
      | cons c t =>
        rw [hc] at h
        simp only [stayGo] at h ⊢
        by_cases hgd : good (g l (i + 1)) c = true
        · rw [if_pos hgd] at h
          obtain ⟨hok, hne, hl⟩ := good_iff.1 hgd
          obtain ⟨n, hn⟩ : ∃ n, dist (g l (i + 1)) c = n + 1 := ⟨dist (g l (i + 1)) c - 1, by
            have : dist (g l (i + 1)) c ≠ 0 := fun e => hne (dist_zero.1 e)
            omega⟩
          obtain ⟨m, hm, hm'⟩ := Option.map_eq_some_iff.1 h
          rw [hn] at hm'
          simp only [leg, List.cons_append] at hm'
          obtain ⟨e1, e2⟩ := List.cons.inj hm'
          obtain ⟨x1, x2, x3, x4⟩ := extend hl hn hs (by rw [e1]; exact hg.1) (by rw [e1]; exact hg.2)
          rw [if_pos (good_iff.2 ⟨hok, x4, x1⟩), hm, x2]
          simp only [Option.map_some]
          rw [drop_g (show i + 1 < l.length by omega), drop_g hlast, ← hm']
          simp [leg, x3, e1]
        · rw [if_neg hgd] at h
          cases h
theorem stay_turns (l : List PT) (hp : IsPath l) : stay (turns l) = (l, true) := by
  obtain ⟨h1, h2, hp⟩ := hp
  have h := stayGo_turns l hp (l.length - 1) 0 (by omega)
  unfold turns
  rw [turnsFrom_step l 0 (by omega), if_pos (by simp [turnAt]), List.singleton_append]
  simp only [stay]
  have hlen : (turnsFrom l (0 + 1)).length ≤ l.length - 1 := by
    unfold turnsFrom
    rw [List.length_map]
    exact Nat.le_trans (List.length_filter_le _ _) (by simp)
  rw [if_pos ⟨by omega, (hp 0 (by omega) (by omega)).1⟩, h]
  have e : [g l 0] ++ l.drop 1 = l := by
    have := drop_g (show 0 < l.length by omega)
    simpa using this.symm
  simp only [fin]
  rw [e, if_pos h2]

/-- The turns on a leg are at its end at most. -/
theorem turns_leg (b : PT) (m : List PT) : ∀ (n : Nat) (acc : List PT) (a : PT), Ends acc a → InLine a b → dist a b = n + 1 →
    turnsFrom (acc ++ leg (n + 1) a b ++ m) acc.length = (if turnAt (acc ++ leg (n + 1) a b ++ m) (acc.length + n) = true then [b] else []) ++ turnsFrom (acc ++ leg (n + 1) a b ++ m) (acc.length + n + 1) := by
  intro n
  induction n with
  | zero =>
    intro acc a he hl hd
    obtain ⟨h1, h2, h3, h4⟩ := nxt_dist hl 0 hd
    rw [dist_zero] at h1
    rw [turnsFrom_step _ acc.length (by simp [leg_length]; omega)]
    have hg : g (acc ++ leg (0 + 1) a b ++ m) acc.length = b := by
      rw [g_append_left (by simp [leg_length])]
      simp only [leg, h1]
      exact g_append_last acc b
    rw [hg]
    simp only [Nat.add_zero]
  | succ n ih =>
    intro acc a he hl hd
    obtain ⟨h1, h2, h3, h4⟩ := nxt_dist hl (n + 1) hd
    have e : acc ++ leg (n + 1 + 1) a b ++ m = (acc ++ [nxt a b]) ++ leg (n + 1) (nxt a b) b ++ m := by simp [leg]
    have he' : Ends (acc ++ [nxt a b]) (nxt a b) := by
      refine ⟨by simp, ?_⟩
      rw [show (acc ++ [nxt a b]).length - 1 = acc.length by simp]
      exact g_append_last acc _
    have h := ih (acc ++ [nxt a b]) (nxt a b) he' h2 h1
    have hlen : ((acc ++ [nxt a b]) ++ leg (n + 1) (nxt a b) b ++ m).length = acc.length + 1 + (n + 1) + m.length := by simp [leg_length]; omega
    have g0 : g ((acc ++ [nxt a b]) ++ leg (n + 1) (nxt a b) b ++ m) (acc.length - 1) = a := by
      have := he.1
      rw [List.append_assoc, List.append_assoc, g_append_left (by omega), he.2]
    have g1 : g ((acc ++ [nxt a b]) ++ leg (n + 1) (nxt a b) b ++ m) acc.length = nxt a b := by
      rw [List.append_assoc, g_append_left (by simp), g_append_last]
    have g2 : g ((acc ++ [nxt a b]) ++ leg (n + 1) (nxt a b) b ++ m) (acc.length + 1) = nxt (nxt a b) b := by
      have e2 : (acc ++ [nxt a b]) ++ leg (n + 1) (nxt a b) b ++ m = ((acc ++ [nxt a b]) ++ [nxt (nxt a b) b]) ++ (leg n (nxt (nxt a b) b) b ++ m) := by simp [leg]
      rw [e2, g_append_left (by simp), show acc.length + 1 = (acc ++ [nxt a b]).length by simp, g_append_last]
    have hnt : turnAt ((acc ++ [nxt a b]) ++ leg (n + 1) (nxt a b) b ++ m) acc.length = false := by
      unfold turnAt
      rw [g0, g1, g2]
      have hdir := h4 (by omega)
      have := he.1
      have x0 : (nxt (nxt a b) b).f0 - (nxt a b).f0 = (nxt a b).f0 - a.f0 := by
        have p0 : (nxt (nxt a b) b).f0 = (nxt a b).f0 + sgn (nxt a b).f0 b.f0 := rfl
        have p1 : (nxt a b).f0 = a.f0 + sgn a.f0 b.f0 := rfl
        rw [p0, hdir.1]
        omega
      have x1 : (nxt (nxt a b) b).f1 - (nxt a b).f1 = (nxt a b).f1 - a.f1 := by
        have p0 : (nxt (nxt a b) b).f1 = (nxt a b).f1 + sgn (nxt a b).f1 b.f1 := rfl
        have p1 : (nxt a b).f1 = a.f1 + sgn a.f1 b.f1 := rfl
        rw [p0, hdir.2]
        omega
      have hgo : goesOn a (nxt a b) (nxt (nxt a b) b) = true := by simp only [goesOn, Bool.and_eq_true, beq_iff_eq]; exact ⟨x0, x1⟩
      rw [hgo, decide_eq_false (by omega), decide_eq_false (by omega)]
      rfl
    rw [e, turnsFrom_step _ acc.length (by omega), hnt, if_neg (by decide), List.nil_append]
    rw [show (acc ++ [nxt a b]).length = acc.length + 1 by simp] at h
    rw [h]
    rw [show acc.length + 1 + n = acc.length + (n + 1) by omega]
/-- The turns of what is between points are some of the points, in order. -/
theorem turns_sub : ∀ (r acc m : List PT) (a : PT), stayGo a r = some m → Ends acc a → List.Sublist (turnsFrom (acc ++ m) acc.length) r := by
  intro r
  induction r with
  | nil =>
    intro acc m a h he
    simp only [stayGo, Option.some.injEq] at h
    subst h
    rw [List.append_nil, turnsFrom_end _ _ (Nat.le_refl _)]
    exact List.Sublist.slnil
  | cons b r ih =>
    intro acc m a h he
    simp only [stayGo] at h
    by_cases hgd : good a b = true
    · rw [if_pos hgd] at h
      obtain ⟨hok, hne, hl⟩ := good_iff.1 hgd
      obtain ⟨n, hn⟩ : ∃ n, dist a b = n + 1 := ⟨dist a b - 1, by
        have : dist a b ≠ 0 := fun e => hne (dist_zero.1 e)
        omega⟩
      obtain ⟨m', hm, rfl⟩ := Option.map_eq_some_iff.1 h
      rw [hn, ← List.append_assoc, turns_leg b m' n acc a he hl hn]
      have he' : Ends (acc ++ leg (n + 1) a b) b := by
        clear h hm ih
        refine ⟨by rw [List.length_append, leg_length]; omega, ?_⟩
        have key : ∀ (n : Nat) (acc : List PT) (a : PT), InLine a b → dist a b = n + 1 → g (acc ++ leg (n + 1) a b) ((acc ++ leg (n + 1) a b).length - 1) = b := by
          intro n
          induction n with
          | zero =>
            intro acc a hl hd
            obtain ⟨h1, _⟩ := nxt_dist hl 0 hd
            rw [dist_zero] at h1
            simp only [leg, h1]
            rw [show (acc ++ [b]).length - 1 = acc.length by simp]
            exact g_append_last acc b
          | succ n ih =>
            intro acc a hl hd
            obtain ⟨h1, h2, _⟩ := nxt_dist hl (n + 1) hd
            have := ih (acc ++ [nxt a b]) (nxt a b) h2 h1
            rw [show acc ++ leg (n + 1 + 1) a b = (acc ++ [nxt a b]) ++ leg (n + 1) (nxt a b) b by simp [leg]]
            exact this
        exact key n acc a hl hn
      have hsub := ih (acc ++ leg (n + 1) a b) m' b hm he'
      rw [show (acc ++ leg (n + 1) a b).length = acc.length + n + 1 by simp [leg_length]; omega] at hsub
      split
      · exact List.Sublist.cons_cons b hsub
      · exact List.Sublist.cons b hsub
    · rw [if_neg hgd] at h
      cases h
theorem stayGo_path : ∀ (r acc m : List PT) (a : PT), stayGo a r = some m → okP a = true → PathTo acc 0 → Ends acc a → PathTo (acc ++ m) 0 := by
  intro r
  induction r with
  | nil =>
    intro acc m a h ha hp he
    simp only [stayGo, Option.some.injEq] at h
    subst h
    simpa using hp
  | cons b r ih =>
    intro acc m a h ha hp he
    simp only [stayGo] at h
    by_cases hgd : good a b = true
    · rw [if_pos hgd] at h
      obtain ⟨hok, hne, hl⟩ := good_iff.1 hgd
      obtain ⟨m', hm, rfl⟩ := Option.map_eq_some_iff.1 h
      obtain ⟨hp', he'⟩ := pathTo_leg b hok _ acc a ha hl rfl hp he
      rw [← List.append_assoc]
      exact ih _ m' b hm hok hp' he'
    · rw [if_neg hgd] at h
      cases h
/-- What CodeStay answers with true. -/
theorem stay_true {t l : List PT} (h : stay t = (l, true)) : IsPath l ∧ List.Sublist (turns l) t := by
  match t, h with
  | [], h => simp [stay] at h
  | a :: r, h =>
    simp only [stay] at h
    by_cases hc : r.length ≤ 399 ∧ okP a = true
    · rw [if_pos hc] at h
      cases hm : stayGo a r with
      | none => rw [hm] at h; simp [fin] at h
      | some m =>
        rw [hm] at h
        simp only [fin] at h
        by_cases h4 : ([a] ++ m).length ≤ 400
        · rw [if_pos h4] at h
          obtain rfl : [a] ++ m = l := (Prod.mk.inj h).1
          obtain ⟨hp, he⟩ := one_path hc.2
          refine ⟨⟨by simp, h4, stayGo_path r [a] m a hm hc.2 hp he⟩, ?_⟩
          unfold turns
          rw [turnsFrom_step _ 0 (by simp), if_pos (by simp [turnAt])]
          exact List.Sublist.cons_cons a (turns_sub r [a] m a hm he)
        · rw [if_neg h4] at h
          simp at h
    · rw [if_neg hc] at h
      simp at h
theorem codeTurns_path {l : List PT} (h : IsPath l) : codeTurns l = turns l := by unfold codeTurns; rw [if_pos h]
end Go.Proofs.Ytdacpdhpifocbaa.Q

namespace Go.Proofs.Ytdacpdhpifocbaa.Q
open Go.RowKit Go.Proofs.Ytdacpdhpifocbaa.P Go.Proofs.YtdacpdhpifocbaaW.PrintWords Go.Proofs.YtdacpdhpifocbaaW.PrintLast
set_option linter.unusedVariables false

theorem ext_g' {a b : List PT} (h : a.length = b.length) (h' : ∀ j, j < a.length → g a j = g b j) : a = b := by
  apply List.ext_getElem h
  intro i h1 h2
  have := h' i h1
  rwa [g_eq h1, g_eq h2] at this
theorem luSame_l0 (a b : List PT) (hl : a.length < 1000000000000000000) (hab : a.length = b.length) : ∀ (d k i : Nat), a.length - i = d → i ≤ a.length → d < k →
    ∃ r, laws_luSame.l0 k a b (i : Int) = some r ∧ (r = true ↔ ∀ j, i ≤ j → j < a.length → g a j = g b j) := by
  intro d
  induction d with
  | zero =>
    intro k i hd hi hk
    obtain ⟨k, rfl⟩ : ∃ m, k = m + 1 := ⟨k - 1, by omega⟩
    refine ⟨true, ?_, by simp only [true_iff]; intro j h1 h2; omega⟩
    simp only [laws_luSame.l0]
    rw [if_neg (by omega)]
  | succ d ih =>
    intro k i hd hi hk
    obtain ⟨k, rfl⟩ : ∃ m, k = m + 1 := ⟨k - 1, by omega⟩
    simp only [laws_luSame.l0]
    rw [if_pos (by omega), if_pos (by omega), if_pos (by omega), rd_nat, rd_nat]
    by_cases h : g a i = g b i
    · rw [if_neg (by rw [ne_bool]; simpa using h), w_succ (by omega)]
      obtain ⟨r, hr, hr'⟩ := ih k (i + 1) (by omega) (by omega) (by omega)
      refine ⟨r, hr, hr'.trans ⟨fun q j h1 h2 => ?_, fun q j h1 h2 => q j (by omega) h2⟩⟩
      rcases Nat.eq_or_lt_of_le h1 with e | e
      · subst e; exact h
      · exact q j e h2
    · rw [if_pos (by rw [ne_bool]; exact h)]
      exact ⟨false, rfl, by simp only [Bool.false_eq_true, false_iff]; exact fun q => h (q i (Nat.le_refl _) (by omega))⟩
theorem luSame_f (a b : List PT) (hl : a.length < 1000000000000000000) (k : Nat) (hk : a.length < k) : laws_luSame.f k a b = some (decide (a = b)) := by
  unfold laws_luSame.f
  by_cases h : a.length = b.length
  · rw [if_pos (by omega)]
    obtain ⟨r, hr, hr'⟩ := luSame_l0 a b hl h a.length k 0 (by omega) (by omega) (by omega)
    rw [show ((0 : Nat) : Int) = 0 from rfl] at hr
    rw [hr]
    congr 1
    rw [Bool.eq_iff_iff, hr', decide_eq_true_eq]
    exact ⟨fun q => ext_g' h (fun j hj => q j (by omega) hj), fun q j _ _ => by rw [q]⟩
  · rw [if_neg (by omega), decide_eq_false (fun e => h (by rw [e]))]
theorem luSame_self (a : List PT) (hl : a.length < 1000000000000000000) (k : Nat) (hk : a.length < k) : laws_luSame.f k a a = some true := by rw [luSame_f a a hl k hk]; simp
theorem mem_g {l : List PT} {p : PT} : p ∈ l ↔ ∃ j, j < l.length ∧ g l j = p := by
  rw [List.mem_iff_getElem]
  exact ⟨fun ⟨j, h, e⟩ => ⟨j, h, by rw [g_eq h]; exact e⟩, fun ⟨j, h, e⟩ => ⟨j, h, by rw [← g_eq h]; exact e⟩⟩
theorem luAmong_l0 (l : List PT) (p : PT) (hl : l.length < 1000000000000000000) : ∀ (d k i : Nat), l.length - i = d → i ≤ l.length → d < k →
    ∃ r, laws_luAmong.l0 k l (i : Int) p.f0 p.f1 = some r ∧ (r = true ↔ ∃ j, i ≤ j ∧ j < l.length ∧ g l j = p) := by
  intro d
  induction d with
  | zero =>
    intro k i hd hi hk
    obtain ⟨k, rfl⟩ : ∃ m, k = m + 1 := ⟨k - 1, by omega⟩
    refine ⟨false, ?_, by simp only [Bool.false_eq_true, false_iff]; rintro ⟨j, h1, h2, _⟩; omega⟩
    simp only [laws_luAmong.l0]
    rw [if_neg (by omega)]
  | succ d ih =>
    intro k i hd hi hk
    obtain ⟨k, rfl⟩ : ∃ m, k = m + 1 := ⟨k - 1, by omega⟩
    simp only [laws_luAmong.l0]
    rw [if_pos (by omega), if_pos (by omega), rd_nat]
    by_cases h : g l i = p
    · rw [if_pos (by rw [eq_bool]; exact h)]
      exact ⟨true, rfl, by simp only [true_iff]; exact ⟨i, Nat.le_refl _, by omega, h⟩⟩
    · rw [if_neg (by rw [eq_bool]; exact h), w_succ (by omega)]
      obtain ⟨r, hr, hr'⟩ := ih k (i + 1) (by omega) (by omega) (by omega)
      refine ⟨r, hr, hr'.trans ⟨fun ⟨j, h1, h2, h3⟩ => ⟨j, by omega, h2, h3⟩, fun ⟨j, h1, h2, h3⟩ => ⟨j, ?_, h2, h3⟩⟩⟩
      rcases Nat.eq_or_lt_of_le h1 with e | e
      · subst e; exact absurd h3 h
      · exact e
theorem luAmong_f (l : List PT) (p : PT) (hl : l.length < 1000000000000000000) (k : Nat) (hk : l.length < k) : laws_luAmong.f k l p.f0 p.f1 = some (decide (p ∈ l)) := by
  obtain ⟨r, hr, hr'⟩ := luAmong_l0 l p hl l.length k 0 (by omega) (by omega) (by omega)
  unfold laws_luAmong.f
  rw [show ((0 : Nat) : Int) = 0 from rfl] at hr
  rw [hr]
  congr 1
  rw [Bool.eq_iff_iff, hr', decide_eq_true_eq, mem_g]
  exact ⟨fun ⟨j, _, h2, h3⟩ => ⟨j, h2, h3⟩, fun ⟨j, h2, h3⟩ => ⟨j, Nat.zero_le _, h2, h3⟩⟩
theorem luPart_l0 (a b : List PT) (hl : a.length < 1000000000000000000) (hb : b.length < 1000000000000000000) : ∀ (d k i : Nat), a.length - i = d → i ≤ a.length → d + b.length + 1 < k →
    ∃ r, laws_luPart.l0 k a b (i : Int) = some r ∧ (r = true ↔ ∀ j, i ≤ j → j < a.length → g a j ∈ b) := by
  intro d
  induction d with
  | zero =>
    intro k i hd hi hk
    obtain ⟨k, rfl⟩ : ∃ m, k = m + 1 := ⟨k - 1, by omega⟩
    refine ⟨true, ?_, by simp only [true_iff]; intro j h1 h2; omega⟩
    simp only [laws_luPart.l0]
    rw [if_neg (by omega)]
  | succ d ih =>
    intro k i hd hi hk
    obtain ⟨k, rfl⟩ : ∃ m, k = m + 1 := ⟨k - 1, by omega⟩
    simp only [laws_luPart.l0]
    rw [if_pos (by omega), if_pos (by omega), rd_nat, luAmong_f b (g a i) hb k (by omega)]
    simp only [Option.bind_some, decide_eq_true_eq]
    by_cases h : g a i ∈ b
    · rw [if_pos h, w_succ (by omega)]
      obtain ⟨r, hr, hr'⟩ := ih k (i + 1) (by omega) (by omega) (by omega)
      refine ⟨r, hr, hr'.trans ⟨fun q j h1 h2 => ?_, fun q j h1 h2 => q j (by omega) h2⟩⟩
      rcases Nat.eq_or_lt_of_le h1 with e | e
      · subst e; exact h
      · exact q j e h2
    · rw [if_neg h]
      exact ⟨false, rfl, by simp only [Bool.false_eq_true, false_iff]; exact fun q => h (q i (Nat.le_refl _) (by omega))⟩
theorem luPart_f (a b : List PT) (hl : a.length < 1000000000000000000) (hb : b.length < 1000000000000000000) (k : Nat) (hk : a.length + b.length + 1 < k) : laws_luPart.f k a b = some (decide (∀ p ∈ a, p ∈ b)) := by
  obtain ⟨r, hr, hr'⟩ := luPart_l0 a b hl hb a.length k 0 (by omega) (by omega) (by omega)
  unfold laws_luPart.f
  rw [show ((0 : Nat) : Int) = 0 from rfl] at hr
  rw [hr]
  congr 1
  rw [Bool.eq_iff_iff, hr', decide_eq_true_eq]
  refine ⟨fun q p hp => ?_, fun q j _ h2 => q _ (mem_g.2 ⟨j, h2, rfl⟩)⟩
  obtain ⟨j, hj, rfl⟩ := mem_g.1 hp
  exact q j (Nat.zero_le _) hj
theorem luPart_true (a b : List PT) (hl : a.length < 1000000000000000000) (hb : b.length < 1000000000000000000) (k : Nat) (hk : a.length + b.length + 1 < k) (h : ∀ p ∈ a, p ∈ b) : laws_luPart.f k a b = some true := by
  rw [luPart_f a b hl hb k hk, decide_eq_true h]
end Go.Proofs.Ytdacpdhpifocbaa.Q

namespace Go.Proofs.Ytdacpdhpifocbaa.Q
open Go.RowKit Go.Proofs.Ytdacpdhpifocbaa.P Go.Proofs.YtdacpdhpifocbaaW.PrintWords Go.Proofs.YtdacpdhpifocbaaW.PrintLast
set_option linter.unusedVariables false

/-- bytes of a code -/
def Bytes (s : List Int) : Prop := s.length ≤ 2000 ∧ ∀ b ∈ s, 0 ≤ b ∧ b ≤ 255
theorem rd_byte {s : List Int} (hs : Bytes s) (i : Int) : 0 ≤ rd s i ∧ rd s i ≤ 255 := by
  unfold rd
  rw [List.getD_eq_getElem?_getD]
  cases h : s[i.toNat]? with
  | none => simp
  | some b =>
    obtain ⟨hi, rfl⟩ := List.getElem?_eq_some_iff.1 h
    exact hs.2 _ (List.getElem_mem hi)
theorem xor_nat (a b : Nat) (ha : a < 4611686018427387904) (hb : b < 4611686018427387904) : Go.bits .xor .i64 (a : Int) (b : Int) = ((a ^^^ b : Nat) : Int) := by
  have hx : a ^^^ b < 2 ^ 62 := Nat.xor_lt_two_pow (by simpa using ha) (by simpa using hb)
  simp only [Go.bits, BitVec.ofInt_natCast, BitVec.toNat_xor, BitVec.toNat_ofNat]
  rw [show IntKind.bits .i64 = 64 from rfl, Nat.mod_eq_of_lt (show a < 2 ^ 64 by omega), Nat.mod_eq_of_lt (show b < 2 ^ 64 by omega), IntKind.wrap_i64]
  have : (a ^^^ b) < 4611686018427387904 := by simpa using hx
  omega
theorem xor_pos {a b : Int} (ha : 0 ≤ a ∧ a < 4611686018427387904) (hb : 0 ≤ b ∧ b < 4611686018427387904) : 0 ≤ Go.bits .xor .i64 a b := by
  obtain ⟨x, rfl⟩ := Int.eq_ofNat_of_zero_le ha.1
  obtain ⟨y, rfl⟩ := Int.eq_ofNat_of_zero_le hb.1
  rw [xor_nat x y (by omega) (by omega)]
  omega
theorem tmod_pos {a b : Int} (ha : 0 ≤ a) (hb : 0 < b) : 0 ≤ Int.tmod a b ∧ Int.tmod a b < b := ⟨Int.tmod_nonneg _ ha, Int.tmod_lt_of_pos _ hb⟩
theorem pick_f {s : List Int} (hs : Bytes s) (p n : Int) (hp : 0 ≤ p ∧ p ≤ 1000000) (hn : 1 ≤ n) (k : Nat) (hk : 1 ≤ k) :
    ∃ v, spec_l6Rd_pick.f k s p n = some (v, p + 1) ∧ 0 ≤ v ∧ v < n := by
  obtain ⟨k, rfl⟩ : ∃ m, k = m + 1 := ⟨k - 1, by omega⟩
  have hl := hs.1
  unfold spec_l6Rd_pick.f
  rw [if_neg (by omega), w_id (x := p + 1) (by omega) (by omega)]
  simp only [spec_l6Rd_pick.j0]
  by_cases h0 : s.length = 0
  · rw [if_pos (by simp [h0])]
    exact ⟨0, rfl, by omega, by omega⟩
  · rw [if_neg (by simp [h0]), w_id (x := p + 1 - 1) (by omega) (by omega), show p + 1 - 1 = p by omega]
    by_cases h1 : p < (s.length : Int)
    · rw [if_pos h1, if_pos hp.1, if_neg (by omega)]
      have hb := rd_byte hs p
      rw [w_id (x := rd s p) (by omega) (by omega)]
      obtain ⟨a, b⟩ := tmod_pos hb.1 (show 0 < n by omega)
      exact ⟨_, rfl, a, b⟩
    · rw [if_neg h1, if_neg (by omega)]
      obtain ⟨a1, a2⟩ := tmod_pos hp.1 (show (0 : Int) < s.length by omega)
      rw [if_pos a1, if_pos a2]
      rw [w_id (x := p * 7) (by omega) (by omega), w_id (x := p * 7 + 3) (by omega) (by omega)]
      obtain ⟨b1, b2⟩ := tmod_pos (show 0 ≤ p * 7 + 3 by omega) (show (0 : Int) < s.length by omega)
      rw [if_pos b1, if_pos b2, if_neg (by omega)]
      have hb := rd_byte hs (Int.tmod p (s.length : Int))
      have hc := rd_byte hs (Int.tmod (p * 7 + 3) (s.length : Int))
      generalize rd s (Int.tmod p (s.length : Int)) = x at *
      generalize rd s (Int.tmod (p * 7 + 3) (s.length : Int)) = y at *
      have hd : 0 ≤ Int.tdiv p (s.length : Int) ∧ Int.tdiv p (s.length : Int) ≤ 1000000 := by
        refine ⟨Int.tdiv_nonneg hp.1 (by omega), ?_⟩
        rw [Int.tdiv_eq_ediv_of_nonneg hp.1]
        exact Int.le_trans (Int.ediv_le_self _ hp.1) hp.2
      generalize Int.tdiv p (s.length : Int) = z at *
      rw [w_id (x := x) (by omega) (by omega), w_id (x := y) (by omega) (by omega), w_id (x := z) (by omega) (by omega), w_id (x := x * 131) (by omega) (by omega), w_id (x := y * 1117) (by omega) (by omega), w_id (x := x * 131 + y * 1117) (by omega) (by omega),
        w_id (x := p * 29) (by omega) (by omega), w_id (x := x * 131 + y * 1117 + p * 29) (by omega) (by omega), w_id (x := z * 53) (by omega) (by omega), w_id (x := x * 131 + y * 1117 + p * 29 + z * 53) (by omega) (by omega)]
      have ht : 0 ≤ x * 131 + y * 1117 + p * 29 + z * 53 ∧ x * 131 + y * 1117 + p * 29 + z * 53 < 1000000000 := by omega
      generalize x * 131 + y * 1117 + p * 29 + z * 53 = t at *
      have hu : 0 ≤ Int.tdiv t 64 ∧ Int.tdiv t 64 < 1000000000 := by
        rw [Int.tdiv_eq_ediv_of_nonneg ht.1]
        omega
      rw [w_id (x := Int.tdiv t 64) (by omega) (by omega)]
      obtain ⟨c1, c2⟩ := tmod_pos (xor_pos (a := t) (b := Int.tdiv t 64) (by omega) (by omega)) (show 0 < n by omega)
      exact ⟨_, rfl, c1, c2⟩
theorem open_f (l : List Int) (hb : ∀ x ∈ l, (Lit.int .u8 x).wf = true) : ∃ s, spec_l6Open.f l = some (s, 0) ∧ Bytes s := by
  have hb' : ∀ x ∈ l, 0 ≤ x ∧ x ≤ 255 := fun x hx => by
    have := hb x hx
    simp [Lit.wf, IntKind.min, IntKind.max, IntKind.bits, IntKind.signed] at this
    omega
  unfold spec_l6Open.f
  by_cases h : (l.length : Int) > 2000
  · rw [if_pos h, if_pos (by omega)]
    exact ⟨_, rfl, by simp; omega, fun b hb => hb' b (List.mem_of_mem_take hb)⟩
  · rw [if_neg h]
    exact ⟨_, rfl, by omega, hb'⟩
theorem l71Pt_f {s : List Int} (hs : Bytes s) (p : Int) (hp : 0 ≤ p ∧ p ≤ 999990) (k : Nat) (hk : 1 ≤ k) :
    ∃ x y q, spec_l71Pt.f k s p = some (x, y, q) ∧ p ≤ q ∧ q ≤ p + 4 ∧ -1 ≤ x ∧ x ≤ 10 ∧ -1 ≤ y ∧ y ≤ 10 := by
  unfold spec_l71Pt.f
  obtain ⟨a, ha, a0, a1⟩ := pick_f hs p 10 (by omega) (by omega) k hk
  rw [ha]
  simp only [Option.bind_some]
  obtain ⟨b, hb, b0, b1⟩ := pick_f hs (p + 1) 10 (by omega) (by omega) k hk
  rw [hb]
  simp only [Option.bind_some]
  obtain ⟨c, hc, c0, c1⟩ := pick_f hs (p + 1 + 1) 40 (by omega) (by omega) k hk
  rw [hc]
  simp only [Option.bind_some]
  obtain ⟨d, hd, d0, d1⟩ := pick_f hs (p + 1 + 1 + 1) 2 (by omega) (by omega) k hk
  have hr : -1 ≤ rd [-1, 10] d ∧ rd [-1, 10] d ≤ 10 := by
    have : d = 0 ∨ d = 1 := by omega
    rcases this with rfl | rfl <;> simp [rd]
  by_cases e0 : c = 0
  · rw [if_pos e0, hd]
    simp only [Option.bind_some]
    rw [if_pos d0, if_pos (by simpa using d1)]
    exact ⟨_, _, _, rfl, by omega, by omega, hr.1, hr.2, by omega, by omega⟩
  · rw [if_neg e0]
    by_cases e1 : c = 1
    · rw [if_pos e1, hd]
      simp only [Option.bind_some]
      rw [if_pos d0, if_pos (by simpa using d1)]
      exact ⟨_, _, _, rfl, by omega, by omega, by omega, by omega, hr.1, hr.2⟩
    · rw [if_neg e1]
      exact ⟨_, _, _, rfl, by omega, by omega, by omega, by omega, by omega, by omega⟩
end Go.Proofs.Ytdacpdhpifocbaa.Q

namespace Go.Proofs.Ytdacpdhpifocbaa.Q
open Go.RowKit Go.Proofs.Ytdacpdhpifocbaa.P Go.Proofs.YtdacpdhpifocbaaW.PrintWords Go.Proofs.YtdacpdhpifocbaaW.PrintLast
set_option linter.unusedVariables false
/-- a point that is drawn -/
def Small (p : PT) : Prop := -1 ≤ p.f0 ∧ p.f0 ≤ 10 ∧ -1 ≤ p.f1 ∧ p.f1 ≤ 10
theorem small_snoc {l : List PT} {p : PT} (h : ∀ q ∈ l, Small q) (hp : Small p) : ∀ q ∈ l ++ [p], Small q := fun q hq => by
  rcases List.mem_append.1 hq with h' | h'
  · exact h q h'
  · rw [List.mem_singleton.1 h']; exact hp
theorem drawStay_l0 {s : List Int} (hs : Bytes s) : ∀ (d k : Nat) (acc : List PT) (p a b : Int), 0 ≤ p → p + 10 * (d : Int) ≤ 900000 → 1 ≤ acc.length → acc.length + d ≤ 1000 → d + 2 ≤ k → d ≤ 1000 → (∀ q ∈ acc, Small q) → 0 ≤ a ∧ a < 10 → 0 ≤ b ∧ b < 10 →
    ∃ r, spec_DrawCodeStay.l0 k acc (d : Int) s p a b = some r ∧ 1 ≤ r.length ∧ r.length ≤ acc.length + d + 1 ∧ ∀ q ∈ r, Small q := by
  intro d
  induction d with
  | zero =>
    intro k acc p a b hp hp' h1 h2 hk hd hsm ha hb
    obtain ⟨k, rfl⟩ : ∃ m, k = m + 1 := ⟨k - 1, by omega⟩
    simp only [spec_DrawCodeStay.l0]
    rw [if_neg (by omega)]
    obtain ⟨v, hv, v0, v1⟩ := pick_f hs p 12 (by omega) (by omega) k (by omega)
    rw [hv]
    simp only [Option.bind_some]
    by_cases e : v = 0
    · rw [if_pos e]
      obtain ⟨x, y, q, hq, _, _, z0, z1, z2, z3⟩ := l71Pt_f hs (p + 1) (by omega) k (by omega)
      rw [hq]
      simp only [Option.bind_some]
      rw [if_pos (by omega)]
      exact ⟨_, rfl, by simp, by simp, small_snoc hsm ⟨z0, z1, z2, z3⟩⟩
    · rw [if_neg e]
      exact ⟨_, rfl, h1, by omega, hsm⟩
  | succ d ih =>
    intro k acc p a b hp hp' h1 h2 hk hd hsm ha hb
    obtain ⟨k, rfl⟩ : ∃ m, k = m + 1 := ⟨k - 1, by omega⟩
    simp only [spec_DrawCodeStay.l0]
    have hw : wrap64 (((d + 1 : Nat) : Int) - 1) = (d : Int) := by rw [w_id (by omega) (by omega)]; omega
    have hl : wrap64 ((acc.length : Int) - 1) = ((acc.length - 1 : Nat) : Int) := w_pred (by omega) (by omega)
    rw [if_pos (by omega), hw, hl]
    obtain ⟨v, hv, v0, v1⟩ := pick_f hs p 2 (by omega) (by omega) k (by omega)
    rw [hv]
    simp only [Option.bind_some]
    have grow : ∀ (q x y : Int), p ≤ q → q ≤ p + 10 → 0 ≤ x ∧ x < 10 → 0 ≤ y ∧ y < 10 → ∃ r, spec_DrawCodeStay.l0 k (acc ++ [⟨x, y⟩]) (d : Int) s q x y = some r ∧ 1 ≤ r.length ∧ r.length ≤ acc.length + (d + 1) + 1 ∧ ∀ q ∈ r, Small q := fun q x y q0 q1 hx hy => by
      obtain ⟨r, hr, r1, r2, r3⟩ := ih k (acc ++ [⟨x, y⟩]) q x y (by omega) (by omega) (by simp) (by simp; omega) (by omega) (by omega) (small_snoc hsm (by unfold Small; simp only; omega)) hx hy
      exact ⟨r, hr, r1, by simp at r2; omega, r3⟩
    have stays : ∀ (q x y : Int), p ≤ q → q ≤ p + 10 → 0 ≤ x ∧ x < 10 → 0 ≤ y ∧ y < 10 → ∃ r, spec_DrawCodeStay.l0 k acc (d : Int) s q x y = some r ∧ 1 ≤ r.length ∧ r.length ≤ acc.length + (d + 1) + 1 ∧ ∀ q ∈ r, Small q := fun q x y q0 q1 hx hy => by
      obtain ⟨r, hr, r1, r2, r3⟩ := ih k acc q x y (by omega) (by omega) h1 (by omega) (by omega) (by omega) hsm hx hy
      exact ⟨r, hr, r1, by omega, r3⟩
    obtain ⟨u, hu, u0, u1⟩ := pick_f hs (p + 1) 10 (by omega) (by omega) k (by omega)
    obtain ⟨t, ht, t0, t1⟩ := pick_f hs (p + 1 + 1) 20 (by omega) (by omega) k (by omega)
    by_cases e : v = 0
    · rw [if_pos e, hu]
      simp only [Option.bind_some]
      rw [if_pos (by omega), if_pos (by omega), ht]
      simp only [Option.bind_some]
      split
      · rw [if_pos (by omega)]
        exact grow _ _ _ (by omega) (by omega) (by omega) (by omega)
      · split
        · rw [if_pos (by omega)]
          exact grow _ _ _ (by omega) (by omega) (by omega) (by omega)
        · exact stays _ _ _ (by omega) (by omega) (by omega) (by omega)
    · rw [if_neg e, hu]
      simp only [Option.bind_some]
      rw [if_pos (by omega), if_pos (by omega), ht]
      simp only [Option.bind_some]
      split
      · rw [if_pos (by omega)]
        exact grow _ _ _ (by omega) (by omega) (by omega) (by omega)
      · split
        · rw [if_pos (by omega)]
          exact grow _ _ _ (by omega) (by omega) (by omega) (by omega)
        · exact stays _ _ _ (by omega) (by omega) (by omega) (by omega)
theorem drawStay_f (l : List Int) (hb : ∀ x ∈ l, (Lit.int .u8 x).wf = true) (k : Nat) (hk : 100 ≤ k) : ∃ r, spec_DrawCodeStay.f k l = some r ∧ 1 ≤ r.length ∧ r.length ≤ 8 ∧ ∀ q ∈ r, Small q := by
  obtain ⟨s, ho, hs⟩ := open_f l hb
  unfold spec_DrawCodeStay.f
  rw [ho]
  simp only [Option.bind_some]
  obtain ⟨a, ha, a0, a1⟩ := pick_f hs 0 10 (by omega) (by omega) k (by omega)
  rw [ha]
  simp only [Option.bind_some]
  obtain ⟨b, hb, b0, b1⟩ := pick_f hs (0 + 1) 10 (by omega) (by omega) k (by omega)
  rw [hb]
  simp only [Option.bind_some]
  obtain ⟨n, hn, n0, n1⟩ := pick_f hs (0 + 1 + 1) 7 (by omega) (by omega) k (by omega)
  rw [hn]
  simp only [Option.bind_some]
  obtain ⟨m, rfl⟩ := Int.eq_ofNat_of_zero_le n0
  obtain ⟨r, hr, r1, r2, r3⟩ := drawStay_l0 hs m k [⟨a, b⟩] (0 + 1 + 1 + 1) a b (by omega) (by omega) (by simp) (by simp; omega) (by omega) (by omega)
    (fun q hq => by rw [List.mem_singleton.1 hq]; unfold Small; simp only; omega) ⟨a0, a1⟩ ⟨b0, b1⟩
  exact ⟨r, hr, r1, by simp at r2; omega, r3⟩
end Go.Proofs.Ytdacpdhpifocbaa.Q

namespace Go.Proofs.Ytdacpdhpifocbaa.Pure
open Go.RowKit Go.Proofs.Ytdacpdhpifocbaa.P Go.Proofs.Ytdacpdhpifocbaa.Q Go.Proofs.YtdacpdhpifocbaaW.PrintWords Go.Proofs.YtdacpdhpifocbaaW.PrintLast
set_option linter.unusedVariables false
theorem luSq_step {a b : PT} (ha : okP a = true) (hb : okP b = true) : ∃ v, laws_luSq.f a.f0 a.f1 b.f0 b.f1 = some v ∧ (v = 1 ↔ Step a b) := by
  rw [okP_iff] at ha hb
  unfold laws_luSq.f
  have hx : -9 ≤ a.f0 - b.f0 ∧ a.f0 - b.f0 ≤ 9 := by omega
  have hy : -9 ≤ a.f1 - b.f1 ∧ a.f1 - b.f1 ≤ 9 := by omega
  have mx := w_mul hx hx
  have my := w_mul hy hy
  rw [w_id (x := a.f0 - b.f0) (by omega) (by omega), w_id (x := a.f1 - b.f1) (by omega) (by omega), w_id (x := (a.f0 - b.f0) * (a.f0 - b.f0)) (by omega) (by omega), w_id (x := (a.f1 - b.f1) * (a.f1 - b.f1)) (by omega) (by omega), w_id (by omega) (by omega)]
  refine ⟨_, rfl, ?_⟩
  rw [dot_one hx hy]
  unfold Step
  omega
theorem luPath_l0 (l : List PT) (hl : l.length < 1000000000000000000) : ∀ (d k i : Nat), l.length - i = d → i ≤ l.length → d < k → PathTo l i → (∀ j, j < i → okP (g l j) = true) → 1 ≤ l.length →
    laws_luPath.l0 k l (i : Int) = some true := by
  intro d
  induction d with
  | zero =>
    intro k i hd hi hk hp hbef h1
    obtain ⟨k, rfl⟩ : ∃ m, k = m + 1 := ⟨k - 1, by omega⟩
    simp only [laws_luPath.l0]
    rw [if_neg (by omega), decide_eq_true (by omega)]
  | succ d ih =>
    intro k i hd hi hk hp hbef h1
    obtain ⟨k, rfl⟩ : ∃ m, k = m + 1 := ⟨k - 1, by omega⟩
    have hok := (hp i (Nat.le_refl _) (by omega)).1
    have hn := ih k (i + 1) (by omega) (by omega) (by omega) (fun j a b => hp j (by omega) b) (fun j hj => by
      rcases Nat.eq_or_lt_of_le (Nat.le_of_lt_succ hj) with e | e
      · subst e; exact hok
      · exact hbef j e) h1
    simp only [laws_luPath.l0]
    rw [if_pos (by omega), if_pos (by omega), rd_nat, implOk]
    simp only [Option.bind_some]
    rw [if_pos (by simpa using hok), w_succ (by omega)]
    by_cases h0 : 0 < i
    · obtain ⟨v, hv, hv'⟩ := luSq_step (hbef (i - 1) (by omega)) hok
      rw [if_pos (by omega), w_pred h0 (by omega), if_pos (by omega), if_pos (by omega), rd_nat, hv]
      simp only [Option.bind_some]
      rw [if_pos (hv'.2 ((hp i (Nat.le_refl _) (by omega)).2 h0)), hn]
    · rw [if_neg (by omega), hn]
theorem luPath_true (l : List PT) (hp : IsPath l) (k : Nat) (hk : l.length < k) : laws_luPath.f k l = some true := by
  have := luPath_l0 l (by have := hp.2.1; omega) l.length k 0 (by omega) (by omega) hk hp.2.2 (fun j hj => by omega) hp.1
  exact this
/-- are all points of the grid, each in line with the one ahead, and not it -/
def canFrom : PT → List PT → Bool
  | _, [] => true
  | a, b :: r => good a b && canFrom b r
def sumFrom : PT → List PT → Nat
  | _, [] => 0
  | a, b :: r => dist a b + sumFrom b r
theorem stayGo_can : ∀ (r : List PT) (a : PT), (canFrom a r = true → ∃ m, stayGo a r = some m ∧ m.length = sumFrom a r) ∧ (canFrom a r = false → stayGo a r = none)
  | [], a => ⟨fun _ => ⟨[], rfl, rfl⟩, fun h => by simp [canFrom] at h⟩
  | b :: r, a => by
    obtain ⟨h1, h2⟩ := stayGo_can r b
    constructor
    · intro h
      simp only [canFrom, Bool.and_eq_true] at h
      obtain ⟨m, hm, hm'⟩ := h1 h.2
      refine ⟨leg (dist a b) a b ++ m, by simp only [stayGo]; rw [if_pos h.1, hm]; rfl, by rw [List.length_append, leg_length, hm']; rfl⟩
    · intro h
      simp only [canFrom, Bool.and_eq_false_iff] at h
      simp only [stayGo]
      by_cases hg : good a b = true
      · rw [if_pos hg, h2 (h.resolve_left (by simp [hg]))]
        rfl
      · rw [if_neg hg]
theorem canFrom_sum : ∀ (r : List PT) (a : PT), okP a = true → canFrom a r = true → sumFrom a r ≤ 9 * r.length
  | [], a, _, _ => by simp [sumFrom]
  | b :: r, a, ha, h => by
    simp only [canFrom, Bool.and_eq_true] at h
    obtain ⟨hb, _, hl⟩ := good_iff.1 h.1
    have := canFrom_sum r b hb h.2
    have := ok_dist ha hb hl
    simp only [sumFrom, List.length_cons]
    omega
theorem stay_can {a : PT} {r : List PT} (hr : r.length ≤ 40) : (okP a = true ∧ canFrom a r = true → ∃ m, stay (a :: r) = ([a] ++ m, true) ∧ m.length = sumFrom a r) ∧ (¬ (okP a = true ∧ canFrom a r = true) → stay (a :: r) = ([], false)) := by
  obtain ⟨h1, h2⟩ := stayGo_can r a
  constructor
  · rintro ⟨ha, hc⟩
    obtain ⟨m, hm, hm'⟩ := h1 hc
    have := canFrom_sum r a ha hc
    simp only [stay]
    rw [if_pos ⟨by omega, ha⟩, hm]
    simp only [fin]
    rw [if_pos (by simp; omega)]
    exact ⟨m, rfl, hm'⟩
  · intro h
    simp only [stay]
    by_cases ha : okP a = true
    · rw [if_pos ⟨by omega, ha⟩, h2 (by cases hc : canFrom a r with | false => rfl | true => exact absurd ⟨ha, hc⟩ h)]
      rfl
    · rw [if_neg (fun h => ha h.2)]
/-- The end of what is between points. -/
theorem stayGo_end : ∀ (r acc m : List PT) (a : PT), stayGo a r = some m → okP a = true → PathTo acc 0 → Q.Ends acc a → Q.Ends (acc ++ m) (g (a :: r) r.length) ∧ ∀ p ∈ r, p ∈ acc ++ m := by
  intro r
  induction r with
  | nil =>
    intro acc m a h ha hp he
    simp only [stayGo, Option.some.injEq] at h
    subst h
    rw [List.append_nil]
    exact ⟨he, fun p hp => by cases hp⟩
  | cons b r ih =>
    intro acc m a h ha hp he
    simp only [stayGo] at h
    by_cases hgd : good a b = true
    · rw [if_pos hgd] at h
      obtain ⟨hok, hne, hl⟩ := good_iff.1 hgd
      obtain ⟨m', hm, rfl⟩ := Option.map_eq_some_iff.1 h
      obtain ⟨hp', he'⟩ := pathTo_leg b hok _ acc a ha hl rfl hp he
      obtain ⟨h1, h2⟩ := ih (acc ++ leg (dist a b) a b) m' b hm hok hp' he'
      rw [← List.append_assoc]
      refine ⟨by simpa [g] using h1, fun p hp => ?_⟩
      rcases List.mem_cons.1 hp with rfl | hp
      · rw [List.mem_append]
        refine .inl ?_
        rw [mem_g]
        exact ⟨_, by have := he'.1; omega, he'.2⟩
      · exact h2 p hp
    · rw [if_neg hgd] at h
      cases h
theorem mx_abs {d : Int} (h0 : -100000000 ≤ d) (h1 : d ≤ 100000000) : mx (wrap64 d) (wrap64 (-(wrap64 d))) = (d.natAbs : Int) := by
  rw [w_id (x := d) (by omega) (by omega), w_id (x := -d) (by omega) (by omega)]
  unfold mx
  split <;> omega
theorem can_bool {a b : PT} {c : Bool} (h : okP b = true) (ha : Small a) (hb : Small b) : ((wrap64 (b.f0 - a.f0) == 0) != (wrap64 (b.f1 - a.f1) == 0)) = good a b := by
  unfold Small at ha hb
  rw [w_id (x := b.f0 - a.f0) (by omega) (by omega), w_id (x := b.f1 - a.f1) (by omega) (by omega), Bool.eq_iff_iff, good_iff]
  unfold InLine
  by_cases h0 : b.f0 - a.f0 = 0 <;> by_cases h1 : b.f1 - a.f1 = 0
  · rw [show (b.f0 - a.f0 == 0) = true by simpa using h0, show (b.f1 - a.f1 == 0) = true by simpa using h1]
    simp only [bne_self_eq_false, Bool.false_eq_true, false_iff]
    exact fun hh => hh.2.1 (PT.ext (by omega) (by omega))
  · rw [show (b.f0 - a.f0 == 0) = true by simpa using h0, show (b.f1 - a.f1 == 0) = false by simpa using h1]
    simp only [show (true != false) = true from rfl, true_iff]
    exact ⟨h, fun e => h1 (by rw [e]; omega), .inl (by omega)⟩
  · rw [show (b.f0 - a.f0 == 0) = false by simpa using h0, show (b.f1 - a.f1 == 0) = true by simpa using h1]
    simp only [show (false != true) = true from rfl, true_iff]
    exact ⟨h, fun e => h0 (by rw [e]; omega), .inr (by omega)⟩
  · rw [show (b.f0 - a.f0 == 0) = false by simpa using h0, show (b.f1 - a.f1 == 0) = false by simpa using h1]
    simp only [bne_self_eq_false, Bool.false_eq_true, false_iff]
    rintro ⟨_, _, e | e⟩ <;> omega
set_option maxHeartbeats 4000000 in
theorem fnStay_l0 (x3 x6 : List PT) (x7 : Bool) (hsm : ∀ q ∈ x3, Small q) : ∀ (rem : List PT) (m i : Nat) (a : PT) (c : Bool) (v : Nat), x3.drop i = rem → 1 ≤ i → i ≤ x3.length → x3.length ≤ 100 → g x3 (i - 1) = a → v + 30 * rem.length ≤ 10000 →
    laws_FnStay.l0 (m + rem.length + 1) x3 x6 x7 c (v : Int) (i : Int) =
      (if x7 = true then laws_FnStay.j2 m x3 x6 x7 (c && canFrom a rem) ((v + sumFrom a rem : Nat) : Int) (!(c && canFrom a rem)) else laws_FnStay.j2 m x3 x6 x7 (c && canFrom a rem) ((v + sumFrom a rem : Nat) : Int) true) := by
  intro rem
  induction rem with
  | nil =>
    intro m i a c v hd h1 hi hl ha hv
    have hlen : x3.length ≤ i := by have := congrArg List.length hd; simp at this; omega
    simp only [List.length_nil, laws_FnStay.l0]
    rw [if_neg (by omega)]
    simp [canFrom, sumFrom]
  | cons b rem ih =>
    intro m i a c v hd h1 hi hl ha hv
    have hlt : i < x3.length := by
      rcases Nat.lt_or_ge i x3.length with h | h
      · exact h
      · rw [List.drop_of_length_le h] at hd; cases hd
    rw [drop_g hlt] at hd
    obtain ⟨hg, hdrop⟩ := List.cons.inj hd
    have sa : Small a := hsm a (mem_g.2 ⟨i - 1, by omega, ha⟩)
    have sb : Small b := hsm b (mem_g.2 ⟨i, hlt, hg⟩)
    have sa' := sa
    have sb' := sb
    unfold Small at sa' sb'
    simp only [List.length_cons] at hv ⊢
    obtain ⟨q, hq⟩ : ∃ q, q = m + rem.length + 1 := ⟨_, rfl⟩
    rw [show m + (rem.length + 1) + 1 = q + 1 by omega]
    simp only [laws_FnStay.l0]
    rw [if_pos (by omega), if_pos (by omega), w_pred (by omega) (by omega), if_pos (by omega), if_pos (by omega), rd_nat, rd_nat, hg, ha, implOk, pt_eta, w_succ (by omega), mx_abs (d := b.f0 - a.f0) (by omega) (by omega), mx_abs (d := b.f1 - a.f1) (by omega) (by omega)]
    have hdist : dist a b ≤ 22 := by unfold dist; omega
    have hn : wrap64 (wrap64 ((v : Int) + ((b.f0 - a.f0).natAbs : Int)) + ((b.f1 - a.f1).natAbs : Int)) = ((v + dist a b : Nat) : Int) := by
      unfold dist at *
      rw [w_id (x := (v : Int) + ((b.f0 - a.f0).natAbs : Int)) (by omega) (by omega), w_id (by omega) (by omega)]
      omega
    rw [hn]
    simp only [Option.bind_some]
    have hnext : ∀ c' : Bool, c' = (c && good a b) → laws_FnStay.l0 q x3 x6 x7 c' ((v + dist a b : Nat) : Int) ((i + 1 : Nat) : Int) =
        (if x7 = true then laws_FnStay.j2 m x3 x6 x7 (c && canFrom a (b :: rem)) ((v + sumFrom a (b :: rem) : Nat) : Int) (!(c && canFrom a (b :: rem))) else laws_FnStay.j2 m x3 x6 x7 (c && canFrom a (b :: rem)) ((v + sumFrom a (b :: rem) : Nat) : Int) true) := fun c' hc' => by
      have e1 : i + 1 - 1 = i := Nat.add_sub_cancel i 1
      have e2 : v + dist a b + 30 * rem.length ≤ 10000 := by
        clear hn sa' sb' ih
        omega
      have e3 := ih m (i + 1) b c' (v + dist a b) hdrop (Nat.le_add_left 1 i) hlt hl (e1 ▸ hg) e2
      rw [hq, e3, hc']
      simp only [canFrom, sumFrom, Bool.and_assoc, Nat.add_assoc]
    by_cases hc : c = true
    · rw [if_pos hc]
      by_cases hok : okP b = true
      · rw [if_pos hok]
        exact hnext _ (by rw [can_bool (c := c) hok sa sb, hc, Bool.true_and])
      · rw [if_neg hok]
        exact hnext _ (by rw [show good a b = false by simp [good, hok]]; simp)
    · rw [if_neg hc]
      exact hnext _ (by simp [hc])
set_option maxHeartbeats 4000000 in
theorem FnStay : laws_FnStay.Pure := by
  intro l _ _ hwf
  refine ⟨30000, ?_⟩
  unfold laws_FnStay.f
  by_cases hbig : (l.length : Int) > 1048576
  · rw [if_pos hbig]
  · rw [if_neg hbig]
    obtain ⟨t, ht, t1, t8, hsm⟩ := drawStay_f l hwf 30000 (by omega)
    rw [ht]
    simp only [Option.bind_some]
    rw [specCodeStay t (by omega) _ (by omega), implCodeStay t (by omega) _ (by omega)]
    simp only [Option.bind_some]
    match t, t1, t8, hsm with
    | a :: r, t1, t8, hsm =>
    simp only [List.length_cons] at t8
    obtain ⟨hyes, hno⟩ := stay_can (a := a) (r := r) (by omega)
    have hl0 := fnStay_l0 (a :: r) (stay (a :: r)).1 (stay (a :: r)).2 hsm r (29998 - r.length) 1 a (okP a) 1 (by simp) (by omega) (by simp) (by simp; omega) (by simp [g]) (by omega)
    rw [show 29998 - r.length + r.length + 1 = 29999 by omega] at hl0
    have hlen : (stay (a :: r)).1.length ≤ 1000 := by
      by_cases hc : okP a = true ∧ canFrom a r = true
      · obtain ⟨m, hm, hm'⟩ := hyes hc
        have := canFrom_sum r a hc.1 hc.2
        rw [hm]
        simp
        omega
      · rw [hno hc]
        simp
    simp only [bne_self_eq_false, Bool.false_eq_true, if_false]
    rw [luSame_self _ (by omega) _ (by omega)]
    simp only [Option.bind_some, if_true]
    rw [show (((a :: r).length : Int) == 0) = false by simp only [List.length_cons, beq_eq_false_iff_ne]; omega, show (30000 : Nat) = 29999 + 1 from rfl]
    simp only [laws_FnStay.j0, Bool.false_eq_true, if_false]
    rw [if_pos (by simp only [List.length_cons]; omega), rd_zero, show g (a :: r) 0 = a from rfl, implOk, pt_eta]
    simp only [Option.bind_some]
    rw [show (1 : Int) = ((1 : Nat) : Int) from rfl, hl0]
    obtain ⟨f, hf⟩ : ∃ f, 29998 - r.length = f + 1 := ⟨29997 - r.length, by omega⟩
    rw [hf]
    by_cases hc : okP a = true ∧ canFrom a r = true
    · obtain ⟨m, hm, hm'⟩ := hyes hc
      have hsum := canFrom_sum r a hc.1 hc.2
      have hst := stay_true hm
      obtain ⟨q1, q2⟩ := (stayGo_can r a)
      obtain ⟨m2, hm2, hm2'⟩ := q1 hc.2
      obtain ⟨hp1, he1⟩ := one_path hc.1
      obtain ⟨hend, hmem⟩ := stayGo_end r [a] m2 a hm2 hc.1 hp1 he1
      have hmm : m = m2 := by
        have h := hm
        simp only [stay] at h
        rw [if_pos ⟨by omega, hc.1⟩, hm2] at h
        simp only [fin] at h
        rw [if_pos (by simp; omega)] at h
        have := (Prod.mk.inj h).1
        simpa using this.symm
      subst hmm
      rw [hm, hc.1, hc.2]
      simp only [Bool.and_self, if_true, laws_FnStay.j2, Bool.not_true, Bool.false_eq_true, if_false]
      rw [luPath_true _ hst.1 _ (by simp; omega)]
      simp only [Option.bind_some, if_true]
      have hL : ([a] ++ m).length = 1 + sumFrom a r := by simp; omega
      rw [if_pos (by rw [hL]), if_pos (by rw [hL]; omega), if_pos (by simp only [List.length_cons]; omega), rd_zero, rd_zero, if_pos (by rw [eq_bool]; rfl), w_pred (by omega) (by omega), if_pos (by omega), if_pos (by rw [hL]; omega)]
      have hw : wrap64 (((a :: r).length : Int) - 1) = ((r.length : Nat) : Int) := by
        rw [w_pred (by simp) (by simp only [List.length_cons]; omega)]
        simp
      rw [hw, if_pos (by omega), if_pos (by simp only [List.length_cons]; omega), rd_nat, rd_nat, if_pos (by rw [eq_bool, ← hend.2, hL]), luPart_true _ _ (by simp only [List.length_cons]; omega) (by omega) _ (by simp only [List.length_cons]; omega) (fun p hp => by
        rcases List.mem_cons.1 hp with rfl | hp
        · simp
        · exact hmem p hp)]
      rfl
    · rw [hno hc, show (okP a && canFrom a r) = false by cases h1 : okP a <;> cases h2 : canFrom a r <;> simp_all]
      simp only [Bool.false_eq_true, if_false, laws_FnStay.j2, if_true, beq_self_eq_true]
end Go.Proofs.Ytdacpdhpifocbaa.Pure

