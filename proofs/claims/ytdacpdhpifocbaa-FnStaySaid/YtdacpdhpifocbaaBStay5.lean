/- Part 6 of what Stay rests on: contracts of the program's functions and plain facts (the print's texts and the session's own, put together). -/
import Derived.Test.YtdacpdhpifocbaaBStay4
namespace Go.Proofs.Ytdacpdhpifocbaa.Q
open Go.RowKit Go.Proofs.Ytdacpdhpifocbaa.P Go.Proofs.YtdacpdhpifocbaaW.PrintWords Go.Proofs.YtdacpdhpifocbaaW.PrintLast
set_option linter.unusedVariables false
/-- a point that is drawn -/
def Small (p : PT) : Prop := -1 ≤ p.f0 ∧ p.f0 ≤ 10 ∧ -1 ≤ p.f1 ∧ p.f1 ≤ 10
theorem small_snoc {l : List PT} {p : PT} (h : ∀ q ∈ l, Small q) (hp : Small p) : ∀ q ∈ l ++ [p], Small q := fun q hq => by
  rcases List.mem_append.1 hq with h' | h'
  · exact h q h'
  · rw [List.mem_singleton.1 h']; exact hp
theorem drawStay_l0 {s : List Int} (hs : Bytes s) : ∀ (d k : Nat) (acc : List PT) (p a b : Int), 0 ≤ p → p + 10 * (d : Int) ≤ 900000 → 1 ≤ acc.length → acc.length + d ≤ 1000 → d + 2 ≤ k → d ≤ 1000 → (∀ q ∈ acc, Small q) → 0 ≤ a ∧ a < 10 → 0 ≤ b ∧ b < 10 →
    ∃ r, spec_DrawCodeStay.l0 k acc (d : Int) s p a b = some r ∧ 1 ≤ r.length ∧ r.length ≤ acc.length + d + 1 ∧ ∀ q ∈ r, Small q := by
  intro d
  induction d with
  | zero =>
    intro k acc p a b hp hp' h1 h2 hk hd hsm ha hb
    obtain ⟨k, rfl⟩ : ∃ m, k = m + 1 := ⟨k - 1, by omega⟩
    simp only [spec_DrawCodeStay.l0]
    rw [if_neg (by omega)]
    obtain ⟨v, hv, v0, v1⟩ := pick_f hs p 12 (by omega) (by omega) k (by omega)
    rw [hv]
    simp only [Option.bind_some]
    by_cases e : v = 0
    · rw [if_pos e]
      obtain ⟨x, y, q, hq, _, _, z0, z1, z2, z3⟩ := l71Pt_f hs (p + 1) (by omega) k (by omega)
      rw [hq]
      simp only [Option.bind_some]
      rw [if_pos (by omega)]
      exact ⟨_, rfl, by simp, by simp, small_snoc hsm ⟨z0, z1, z2, z3⟩⟩
    · rw [if_neg e]
      exact ⟨_, rfl, h1, by omega, hsm⟩
  | succ d ih =>
    intro k acc p a b hp hp' h1 h2 hk hd hsm ha hb
    obtain ⟨k, rfl⟩ : ∃ m, k = m + 1 := ⟨k - 1, by omega⟩
    simp only [spec_DrawCodeStay.l0]
    have hw : wrap64 (((d + 1 : Nat) : Int) - 1) = (d : Int) := by rw [w_id (by omega) (by omega)]; omega
    have hl : wrap64 ((acc.length : Int) - 1) = ((acc.length - 1 : Nat) : Int) := w_pred (by omega) (by omega)
    rw [if_pos (by omega), hw, hl]
    obtain ⟨v, hv, v0, v1⟩ := pick_f hs p 2 (by omega) (by omega) k (by omega)
    rw [hv]
    simp only [Option.bind_some]
    have grow : ∀ (q x y : Int), p ≤ q → q ≤ p + 10 → 0 ≤ x ∧ x < 10 → 0 ≤ y ∧ y < 10 → ∃ r, spec_DrawCodeStay.l0 k (acc ++ [⟨x, y⟩]) (d : Int) s q x y = some r ∧ 1 ≤ r.length ∧ r.length ≤ acc.length + (d + 1) + 1 ∧ ∀ q ∈ r, Small q := fun q x y q0 q1 hx hy => by
      obtain ⟨r, hr, r1, r2, r3⟩ := ih k (acc ++ [⟨x, y⟩]) q x y (by omega) (by omega) (by simp) (by simp; omega) (by omega) (by omega) (small_snoc hsm (by unfold Small; simp only; omega)) hx hy
      exact ⟨r, hr, r1, by simp at r2; omega, r3⟩
    have stays : ∀ (q x y : Int), p ≤ q → q ≤ p + 10 → 0 ≤ x ∧ x < 10 → 0 ≤ y ∧ y < 10 → ∃ r, spec_DrawCodeStay.l0 k acc (d : Int) s q x y = some r ∧ 1 ≤ r.length ∧ r.length ≤ acc.length + (d + 1) + 1 ∧ ∀ q ∈ r, Small q := fun q x y q0 q1 hx hy => by
      obtain ⟨r, hr, r1, r2, r3⟩ := ih k acc q x y (by omega) (by omega) h1 (by omega) (by omega) (by omega) hsm hx hy
      exact ⟨r, hr, r1, by omega, r3⟩
    obtain ⟨u, hu, u0, u1⟩ := pick_f hs (p + 1) 10 (by omega) (by omega) k (by omega)
    obtain ⟨t, ht, t0, t1⟩ := pick_f hs (p + 1 + 1) 20 (by omega) (by omega) k (by omega)
    by_cases e : v = 0
    · rw [if_pos e, hu]
      simp only [Option.bind_some]
      rw [if_pos (by omega), if_pos (by omega), ht]
      simp only [Option.bind_some]
      split
      · rw [if_pos (by omega)]
        exact grow _ _ _ (by omega) (by omega) (by omega) (by omega)
      · split
        · rw [if_pos (by omega)]
          exact grow _ _ _ (by omega) (by omega) (by omega) (by omega)
        · exact stays _ _ _ (by omega) (by omega) (by omega) (by omega)
    · rw [if_neg e, hu]
      simp only [Option.bind_some]
      rw [if_pos (by omega), if_pos (by omega), ht]
      simp only [Option.bind_some]
      split
      · rw [if_pos (by omega)]
        exact grow _ _ _ (by omega) (by omega) (by omega) (by omega)
      · split
        · rw [if_pos (by omega)]
          exact grow _ _ _ (by omega) (by omega) (by omega) (by omega)
        · exact stays _ _ _ (by omega) (by omega) (by omega) (by omega)
theorem drawStay_f (l : List Int) (hb : ∀ x ∈ l, (Lit.int .u8 x).wf = true) (k : Nat) (hk : 100 ≤ k) : ∃ r, spec_DrawCodeStay.f k l = some r ∧ 1 ≤ r.length ∧ r.length ≤ 8 ∧ ∀ q ∈ r, Small q := by
  obtain ⟨s, ho, hs⟩ := open_f l hb
  unfold spec_DrawCodeStay.f
  rw [ho]
  simp only [Option.bind_some]
  obtain ⟨a, ha, a0, a1⟩ := pick_f hs 0 10 (by omega) (by omega) k (by omega)
  rw [ha]
  simp only [Option.bind_some]
  obtain ⟨b, hb, b0, b1⟩ := pick_f hs (0 + 1) 10 (by omega) (by omega) k (by omega)
  rw [hb]
  simp only [Option.bind_some]
  obtain ⟨n, hn, n0, n1⟩ := pick_f hs (0 + 1 + 1) 7 (by omega) (by omega) k (by omega)
  rw [hn]
  simp only [Option.bind_some]
  obtain ⟨m, rfl⟩ := Int.eq_ofNat_of_zero_le n0
  obtain ⟨r, hr, r1, r2, r3⟩ := drawStay_l0 hs m k [⟨a, b⟩] (0 + 1 + 1 + 1) a b (by omega) (by omega) (by simp) (by simp; omega) (by omega) (by omega)
    (fun q hq => by rw [List.mem_singleton.1 hq]; unfold Small; simp only; omega) ⟨a0, a1⟩ ⟨b0, b1⟩
  exact ⟨r, hr, r1, by simp at r2; omega, r3⟩
end Go.Proofs.Ytdacpdhpifocbaa.Q

namespace Go.Proofs.Ytdacpdhpifocbaa.Pure
open Go.RowKit Go.Proofs.Ytdacpdhpifocbaa.P Go.Proofs.Ytdacpdhpifocbaa.Q Go.Proofs.YtdacpdhpifocbaaW.PrintWords Go.Proofs.YtdacpdhpifocbaaW.PrintLast
set_option linter.unusedVariables false
theorem luSq_step {a b : PT} (ha : okP a = true) (hb : okP b = true) : ∃ v, laws_luSq.f a.f0 a.f1 b.f0 b.f1 = some v ∧ (v = 1 ↔ Step a b) := by
  rw [okP_iff] at ha hb
  unfold laws_luSq.f
  have hx : -9 ≤ a.f0 - b.f0 ∧ a.f0 - b.f0 ≤ 9 := by omega
  have hy : -9 ≤ a.f1 - b.f1 ∧ a.f1 - b.f1 ≤ 9 := by omega
  have mx := w_mul hx hx
  have my := w_mul hy hy
  rw [w_id (x := a.f0 - b.f0) (by omega) (by omega), w_id (x := a.f1 - b.f1) (by omega) (by omega), w_id (x := (a.f0 - b.f0) * (a.f0 - b.f0)) (by omega) (by omega), w_id (x := (a.f1 - b.f1) * (a.f1 - b.f1)) (by omega) (by omega), w_id (by omega) (by omega)]
  refine ⟨_, rfl, ?_⟩
  rw [dot_one hx hy]
  unfold Step
  omega
theorem luPath_l0 (l : List PT) (hl : l.length < 1000000000000000000) : ∀ (d k i : Nat), l.length - i = d → i ≤ l.length → d < k → PathTo l i → (∀ j, j < i → okP (g l j) = true) → 1 ≤ l.length →
    laws_luPath.l0 k l (i : Int) = some true := by
  intro d
  induction d with
  | zero =>
    intro k i hd hi hk hp hbef h1
    obtain ⟨k, rfl⟩ : ∃ m, k = m + 1 := ⟨k - 1, by omega⟩
    simp only [laws_luPath.l0]
    rw [if_neg (by omega), decide_eq_true (by omega)]
  | succ d ih =>
    intro k i hd hi hk hp hbef h1
    obtain ⟨k, rfl⟩ : ∃ m, k = m + 1 := ⟨k - 1, by omega⟩
    have hok := (hp i (Nat.le_refl _) (by omega)).1
    have hn := ih k (i + 1) (by omega) (by omega) (by omega) (fun j a b => hp j (by omega) b) (fun j hj => by
      rcases Nat.eq_or_lt_of_le (Nat.le_of_lt_succ hj) with e | e
      · subst e; exact hok
      · exact hbef j e) h1
    simp only [laws_luPath.l0]
    rw [if_pos (by omega), if_pos (by omega), rd_nat, implOk]
    simp only [Option.bind_some]
    rw [if_pos (by simpa using hok), w_succ (by omega)]
    by_cases h0 : 0 < i
    · obtain ⟨v, hv, hv'⟩ := luSq_step (hbef (i - 1) (by omega)) hok
      rw [if_pos (by omega), w_pred h0 (by omega), if_pos (by omega), if_pos (by omega), rd_nat, hv]
      simp only [Option.bind_some]
      rw [if_pos (hv'.2 ((hp i (Nat.le_refl _) (by omega)).2 h0)), hn]
    · rw [if_neg (by omega), hn]
theorem luPath_true (l : List PT) (hp : IsPath l) (k : Nat) (hk : l.length < k) : laws_luPath.f k l = some true := by
  have := luPath_l0 l (by have := hp.2.1; omega) l.length k 0 (by omega) (by omega) hk hp.2.2 (fun j hj => by omega) hp.1
  exact this
/-- are all points of the grid, each in line with the one ahead, and not it -/
def canFrom : PT → List PT → Bool
  | _, [] => true
  | a, b :: r => good a b && canFrom b r
def sumFrom : PT → List PT → Nat
  | _, [] => 0
  | a, b :: r => dist a b + sumFrom b r
theorem stayGo_can : ∀ (r : List PT) (a : PT), (canFrom a r = true → ∃ m, stayGo a r = some m ∧ m.length = sumFrom a r) ∧ (canFrom a r = false → stayGo a r = none)
  | [], a => ⟨fun _ => ⟨[], rfl, rfl⟩, fun h => by simp [canFrom] at h⟩
  | b :: r, a => by
    obtain ⟨h1, h2⟩ := stayGo_can r b
    constructor
    · intro h
      simp only [canFrom, Bool.and_eq_true] at h
      obtain ⟨m, hm, hm'⟩ := h1 h.2
      refine ⟨leg (dist a b) a b ++ m, by simp only [stayGo]; rw [if_pos h.1, hm]; rfl, by rw [List.length_append, leg_length, hm']; rfl⟩
    · intro h
      simp only [canFrom, Bool.and_eq_false_iff] at h
      simp only [stayGo]
      by_cases hg : good a b = true
      · rw [if_pos hg, h2 (h.resolve_left (by simp [hg]))]
        rfl
      · rw [if_neg hg]
theorem canFrom_sum : ∀ (r : List PT) (a : PT), okP a = true → canFrom a r = true → sumFrom a r ≤ 9 * r.length
  | [], a, _, _ => by simp [sumFrom]
  | b :: r, a, ha, h => by
    simp only [canFrom, Bool.and_eq_true] at h
    obtain ⟨hb, _, hl⟩ := good_iff.1 h.1
    have := canFrom_sum r b hb h.2
    have := ok_dist ha hb hl
    simp only [sumFrom, List.length_cons]
    omega
theorem stay_can {a : PT} {r : List PT} (hr : r.length ≤ 40) : (okP a = true ∧ canFrom a r = true → ∃ m, stay (a :: r) = ([a] ++ m, true) ∧ m.length = sumFrom a r) ∧ (¬ (okP a = true ∧ canFrom a r = true) → stay (a :: r) = ([], false)) := by
  obtain ⟨h1, h2⟩ := stayGo_can r a
  constructor
  · rintro ⟨ha, hc⟩
    obtain ⟨m, hm, hm'⟩ := h1 hc
    have := canFrom_sum r a ha hc
    simp only [stay]
    rw [if_pos ⟨by omega, ha⟩, hm]
    simp only [fin]
    rw [if_pos (by simp; omega)]
    exact ⟨m, rfl, hm'⟩
  · intro h
    simp only [stay]
    by_cases ha : okP a = true
    · rw [if_pos ⟨by omega, ha⟩, h2 (by cases hc : canFrom a r with | false => rfl | true => exact absurd ⟨ha, hc⟩ h)]
      rfl
    · rw [if_neg (fun h => ha h.2)]
/-- The end of what is between points. -/
theorem stayGo_end : ∀ (r acc m : List PT) (a : PT), stayGo a r = some m → okP a = true → PathTo acc 0 → Q.Ends acc a → Q.Ends (acc ++ m) (g (a :: r) r.length) ∧ ∀ p ∈ r, p ∈ acc ++ m := by
  intro r
  induction r with
  | nil =>
    intro acc m a h ha hp he
    simp only [stayGo, Option.some.injEq] at h
    subst h
    rw [List.append_nil]
    exact ⟨he, fun p hp => by cases hp⟩
  | cons b r ih =>
    intro acc m a h ha hp he
    simp only [stayGo] at h
    by_cases hgd : good a b = true
    · rw [if_pos hgd] at h
      obtain ⟨hok, hne, hl⟩ := good_iff.1 hgd
      obtain ⟨m', hm, rfl⟩ := Option.map_eq_some_iff.1 h
      obtain ⟨hp', he'⟩ := pathTo_leg b hok _ acc a ha hl rfl hp he
      obtain ⟨h1, h2⟩ := ih (acc ++ leg (dist a b) a b) m' b hm hok hp' he'
      rw [← List.append_assoc]
      refine ⟨by simpa [g] using h1, fun p hp => ?_⟩
      rcases List.mem_cons.1 hp with rfl | hp
      · rw [List.mem_append]
        refine .inl ?_
        rw [mem_g]
        exact ⟨_, by have := he'.1; omega, he'.2⟩
      · exact h2 p hp
    · rw [if_neg hgd] at h
      cases h
theorem mx_abs {d : Int} (h0 : -100000000 ≤ d) (h1 : d ≤ 100000000) : mx (wrap64 d) (wrap64 (-(wrap64 d))) = (d.natAbs : Int) := by
  rw [w_id (x := d) (by omega) (by omega), w_id (x := -d) (by omega) (by omega)]
  unfold mx
  split <;> omega
theorem can_bool {a b : PT} {c : Bool} (h : okP b = true) (ha : Small a) (hb : Small b) : ((wrap64 (b.f0 - a.f0) == 0) != (wrap64 (b.f1 - a.f1) == 0)) = good a b := by
  unfold Small at ha hb
  rw [w_id (x := b.f0 - a.f0) (by omega) (by omega), w_id (x := b.f1 - a.f1) (by omega) (by omega), Bool.eq_iff_iff, good_iff]
  unfold InLine
  by_cases h0 : b.f0 - a.f0 = 0 <;> by_cases h1 : b.f1 - a.f1 = 0
  · rw [show (b.f0 - a.f0 == 0) = true by simpa using h0, show (b.f1 - a.f1 == 0) = true by simpa using h1]
    simp only [bne_self_eq_false, Bool.false_eq_true, false_iff]
    exact fun hh => hh.2.1 (PT.ext (by omega) (by omega))
  · rw [show (b.f0 - a.f0 == 0) = true by simpa using h0, show (b.f1 - a.f1 == 0) = false by simpa using h1]
    simp only [show (true != false) = true from rfl, true_iff]
    exact ⟨h, fun e => h1 (by rw [e]; omega), .inl (by omega)⟩
  · rw [show (b.f0 - a.f0 == 0) = false by simpa using h0, show (b.f1 - a.f1 == 0) = true by simpa using h1]
    simp only [show (false != true) = true from rfl, true_iff]
    exact ⟨h, fun e => h0 (by rw [e]; omega), .inr (by omega)⟩
  · rw [show (b.f0 - a.f0 == 0) = false by simpa using h0, show (b.f1 - a.f1 == 0) = false by simpa using h1]
    simp only [bne_self_eq_false, Bool.false_eq_true, false_iff]
    rintro ⟨_, _, e | e⟩ <;> omega
set_option maxHeartbeats 4000000 in
theorem fnStay_l0 (x3 x6 : List PT) (x7 : Bool) (hsm : ∀ q ∈ x3, Small q) : ∀ (rem : List PT) (m i : Nat) (a : PT) (c : Bool) (v : Nat), x3.drop i = rem → 1 ≤ i → i ≤ x3.length → x3.length ≤ 100 → g x3 (i - 1) = a → v + 30 * rem.length ≤ 10000 →
    laws_FnStay.l0 (m + rem.length + 1) x3 x6 x7 c (v : Int) (i : Int) =
      (if x7 = true then laws_FnStay.j2 m x3 x6 x7 (c && canFrom a rem) ((v + sumFrom a rem : Nat) : Int) (!(c && canFrom a rem)) else laws_FnStay.j2 m x3 x6 x7 (c && canFrom a rem) ((v + sumFrom a rem : Nat) : Int) true) := by
  intro rem
  induction rem with
  | nil =>
    intro m i a c v hd h1 hi hl ha hv
    have hlen : x3.length ≤ i := by have := congrArg List.length hd; simp at this; omega
    simp only [List.length_nil, laws_FnStay.l0]
    rw [if_neg (by omega)]
    simp [canFrom, sumFrom]
  | cons b rem ih =>
    intro m i a c v hd h1 hi hl ha hv
    have hlt : i < x3.length := by
      rcases Nat.lt_or_ge i x3.length with h | h
      · exact h
      · rw [List.drop_of_length_le h] at hd; cases hd
    rw [drop_g hlt] at hd
    obtain ⟨hg, hdrop⟩ := List.cons.inj hd
    have sa : Small a := hsm a (mem_g.2 ⟨i - 1, by omega, ha⟩)
    have sb : Small b := hsm b (mem_g.2 ⟨i, hlt, hg⟩)
    have sa' := sa
    have sb' := sb
    unfold Small at sa' sb'
    simp only [List.length_cons] at hv ⊢
    obtain ⟨q, hq⟩ : ∃ q, q = m + rem.length + 1 := ⟨_, rfl⟩
    rw [show m + (rem.length + 1) + 1 = q + 1 by omega]
    simp only [laws_FnStay.l0]
    rw [if_pos (by omega), if_pos (by omega), w_pred (by omega) (by omega), if_pos (by omega), if_pos (by omega), rd_nat, rd_nat, hg, ha, implOk, pt_eta, w_succ (by omega), mx_abs (d := b.f0 - a.f0) (by omega) (by omega), mx_abs (d := b.f1 - a.f1) (by omega) (by omega)]
    have hdist : dist a b ≤ 22 := by unfold dist; omega
    have hn : wrap64 (wrap64 ((v : Int) + ((b.f0 - a.f0).natAbs : Int)) + ((b.f1 - a.f1).natAbs : Int)) = ((v + dist a b : Nat) : Int) := by
      unfold dist at *
      rw [w_id (x := (v : Int) + ((b.f0 - a.f0).natAbs : Int)) (by omega) (by omega), w_id (by omega) (by omega)]
      omega
    rw [hn]
    simp only [Option.bind_some]
    have hnext : ∀ c' : Bool, c' = (c && good a b) → laws_FnStay.l0 q x3 x6 x7 c' ((v + dist a b : Nat) : Int) ((i + 1 : Nat) : Int) =
        (if x7 = true then laws_FnStay.j2 m x3 x6 x7 (c && canFrom a (b :: rem)) ((v + sumFrom a (b :: rem) : Nat) : Int) (!(c && canFrom a (b :: rem))) else laws_FnStay.j2 m x3 x6 x7 (c && canFrom a (b :: rem)) ((v + sumFrom a (b :: rem) : Nat) : Int) true) := fun c' hc' => by
      have e1 : i + 1 - 1 = i := Nat.add_sub_cancel i 1
      have e2 : v + dist a b + 30 * rem.length ≤ 10000 := by
        clear hn sa' sb' ih
        omega
      have e3 := ih m (i + 1) b c' (v + dist a b) hdrop (Nat.le_add_left 1 i) hlt hl (e1 ▸ hg) e2
      rw [hq, e3, hc']
      simp only [canFrom, sumFrom, Bool.and_assoc, Nat.add_assoc]
    by_cases hc : c = true
    · rw [if_pos hc]
      by_cases hok : okP b = true
      · rw [if_pos hok]
        exact hnext _ (by rw [can_bool (c := c) hok sa sb, hc, Bool.true_and])
      · rw [if_neg hok]
        exact hnext _ (by rw [show good a b = false by simp [good, hok]]; simp)
    · rw [if_neg hc]
      exact hnext _ (by simp [hc])
set_option maxHeartbeats 4000000 in
theorem FnStay : laws_FnStay.Pure := by
  intro l _ _ hwf
  refine ⟨30000, ?_⟩
  unfold laws_FnStay.f
  by_cases hbig : (l.length : Int) > 1048576
  · rw [if_pos hbig]
  · rw [if_neg hbig]
    obtain ⟨t, ht, t1, t8, hsm⟩ := drawStay_f l hwf 30000 (by omega)
    rw [ht]
    simp only [Option.bind_some]
    rw [specCodeStay t (by omega) _ (by omega), implCodeStay t (by omega) _ (by omega)]
    simp only [Option.bind_some]
    match t, t1, t8, hsm with
    | a :: r, t1, t8, hsm =>
    simp only [List.length_cons] at t8
    obtain ⟨hyes, hno⟩ := stay_can (a := a) (r := r) (by omega)
    have hl0 := fnStay_l0 (a :: r) (stay (a :: r)).1 (stay (a :: r)).2 hsm r (29998 - r.length) 1 a (okP a) 1 (by simp) (by omega) (by simp) (by simp; omega) (by simp [g]) (by omega)
    rw [show 29998 - r.length + r.length + 1 = 29999 by omega] at hl0
    have hlen : (stay (a :: r)).1.length ≤ 1000 := by
      by_cases hc : okP a = true ∧ canFrom a r = true
      · obtain ⟨m, hm, hm'⟩ := hyes hc
        have := canFrom_sum r a hc.1 hc.2
        rw [hm]
        simp
        omega
      · rw [hno hc]
        simp
    simp only [bne_self_eq_false, Bool.false_eq_true, if_false]
    rw [luSame_self _ (by omega) _ (by omega)]
    simp only [Option.bind_some, if_true]
    rw [show (((a :: r).length : Int) == 0) = false by simp only [List.length_cons, beq_eq_false_iff_ne]; omega, show (30000 : Nat) = 29999 + 1 from rfl]
    simp only [laws_FnStay.j0, Bool.false_eq_true, if_false]
    rw [if_pos (by simp only [List.length_cons]; omega), rd_zero, show g (a :: r) 0 = a from rfl, implOk, pt_eta]
    simp only [Option.bind_some]
    rw [show (1 : Int) = ((1 : Nat) : Int) from rfl, hl0]
    obtain ⟨f, hf⟩ : ∃ f, 29998 - r.length = f + 1 := ⟨29997 - r.length, by omega⟩
    rw [hf]
    by_cases hc : okP a = true ∧ canFrom a r = true
    · obtain ⟨m, hm, hm'⟩ := hyes hc
      have hsum := canFrom_sum r a hc.1 hc.2
      have hst := stay_true hm
      obtain ⟨q1, q2⟩ := (stayGo_can r a)
      obtain ⟨m2, hm2, hm2'⟩ := q1 hc.2
      obtain ⟨hp1, he1⟩ := one_path hc.1
      obtain ⟨hend, hmem⟩ := stayGo_end r [a] m2 a hm2 hc.1 hp1 he1
      have hmm : m = m2 := by
        have h := hm
        simp only [stay] at h
        rw [if_pos ⟨by omega, hc.1⟩, hm2] at h
        simp only [fin] at h
        rw [if_pos (by simp; omega)] at h
        have := (Prod.mk.inj h).1
        simpa using this.symm
      subst hmm
      rw [hm, hc.1, hc.2]
      simp only [Bool.and_self, if_true, laws_FnStay.j2, Bool.not_true, Bool.false_eq_true, if_false]
      rw [luPath_true _ hst.1 _ (by simp; omega)]
      simp only [Option.bind_some, if_true]
      have hL : ([a] ++ m).length = 1 + sumFrom a r := by simp; omega
      rw [if_pos (by rw [hL]), if_pos (by rw [hL]; omega), if_pos (by simp only [List.length_cons]; omega), rd_zero, rd_zero, if_pos (by rw [eq_bool]; rfl), w_pred (by omega) (by omega), if_pos (by omega), if_pos (by rw [hL]; omega)]
      have hw : wrap64 (((a :: r).length : Int) - 1) = ((r.length : Nat) : Int) := by
        rw [w_pred (by simp) (by simp only [List.length_cons]; omega)]
        simp
      rw [hw, if_pos (by omega), if_pos (by simp only [List.length_cons]; omega), rd_nat, rd_nat, if_pos (by rw [eq_bool, ← hend.2, hL]), luPart_true _ _ (by simp only [List.length_cons]; omega) (by omega) _ (by simp only [List.length_cons]; omega) (fun p hp => by
        rcases List.mem_cons.1 hp with rfl | hp
        · simp
        · exact hmem p hp)]
      rfl
    · rw [hno hc, show (okP a && canFrom a r) = false by cases h1 : okP a <;> cases h2 : canFrom a r <;> simp_all]
      simp only [Bool.false_eq_true, if_false, laws_FnStay.j2, if_true, beq_self_eq_true]
end Go.Proofs.Ytdacpdhpifocbaa.Pure

