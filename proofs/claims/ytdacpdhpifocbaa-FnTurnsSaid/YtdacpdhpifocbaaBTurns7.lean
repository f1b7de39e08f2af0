/- Part 8 of what Turns rests on: contracts of the program's functions and plain facts (the print's texts and the session's own, put together). -/
import Derived.Test.YtdacpdhpifocbaaBTurns6
namespace Go.Proofs.Ytdacpdhpifocbaa.Q
open Go.RowKit Go.Proofs.Ytdacpdhpifocbaa.P Go.Proofs.YtdacpdhpifocbaaW.PrintWords Go.Proofs.YtdacpdhpifocbaaW.PrintLast
set_option linter.unusedVariables false

/-- bytes of a code -/
def Bytes (s : List Int) : Prop := s.length ≤ 2000 ∧ ∀ b ∈ s, 0 ≤ b ∧ b ≤ 255
theorem rd_byte {s : List Int} (hs : Bytes s) (i : Int) : 0 ≤ rd s i ∧ rd s i ≤ 255 := by
  unfold rd
  rw [List.getD_eq_getElem?_getD]
  cases h : s[i.toNat]? with
  | none => simp
  | some b =>
    obtain ⟨hi, rfl⟩ := List.getElem?_eq_some_iff.1 h
    exact hs.2 _ (List.getElem_mem hi)
theorem xor_nat (a b : Nat) (ha : a < 4611686018427387904) (hb : b < 4611686018427387904) : Go.bits .xor .i64 (a : Int) (b : Int) = ((a ^^^ b : Nat) : Int) := by
  have hx : a ^^^ b < 2 ^ 62 := Nat.xor_lt_two_pow (by simpa using ha) (by simpa using hb)
  simp only [Go.bits, BitVec.ofInt_natCast, BitVec.toNat_xor, BitVec.toNat_ofNat]
  rw [show IntKind.bits .i64 = 64 from rfl, Nat.mod_eq_of_lt (show a < 2 ^ 64 by omega), Nat.mod_eq_of_lt (show b < 2 ^ 64 by omega), IntKind.wrap_i64]
  have : (a ^^^ b) < 4611686018427387904 := by simpa using hx
  omega
theorem xor_pos {a b : Int} (ha : 0 ≤ a ∧ a < 4611686018427387904) (hb : 0 ≤ b ∧ b < 4611686018427387904) : 0 ≤ Go.bits .xor .i64 a b := by
  obtain ⟨x, rfl⟩ := Int.eq_ofNat_of_zero_le ha.1
  obtain ⟨y, rfl⟩ := Int.eq_ofNat_of_zero_le hb.1
  rw [xor_nat x y (by omega) (by omega)]
  omega
theorem tmod_pos {a b : Int} (ha : 0 ≤ a) (hb : 0 < b) : 0 ≤ Int.tmod a b ∧ Int.tmod a b < b := ⟨Int.tmod_nonneg _ ha, Int.tmod_lt_of_pos _ hb⟩
theorem pick_f {s : List Int} (hs : Bytes s) (p n : Int) (hp : 0 ≤ p ∧ p ≤ 1000000) (hn : 1 ≤ n) (k : Nat) (hk : 1 ≤ k) :
    ∃ v, spec_l6Rd_pick.f k s p n = some (v, p + 1) ∧ 0 ≤ v ∧ v < n := by
  obtain ⟨k, rfl⟩ : ∃ m, k = m + 1 := ⟨k - 1, by omega⟩
  have hl := hs.1
  unfold spec_l6Rd_pick.f
  rw [if_neg (by omega), w_id (x := p + 1) (by omega) (by omega)]
  simp only [spec_l6Rd_pick.j0]
  by_cases h0 : s.length = 0
  · rw [if_pos (by simp [h0])]
    exact ⟨0, rfl, by omega, by omega⟩
  · rw [if_neg (by simp [h0]), w_id (x := p + 1 - 1) (by omega) (by omega), show p + 1 - 1 = p by omega]
    by_cases h1 : p < (s.length : Int)
    · rw [if_pos h1, if_pos hp.1, if_neg (by omega)]
      have hb := rd_byte hs p
      rw [w_id (x := rd s p) (by omega) (by omega)]
      obtain ⟨a, b⟩ := tmod_pos hb.1 (show 0 < n by omega)
      exact ⟨_, rfl, a, b⟩
    · rw [if_neg h1, if_neg (by omega)]
      obtain ⟨a1, a2⟩ := tmod_pos hp.1 (show (0 : Int) < s.length by omega)
      rw [if_pos a1, if_pos a2]
      rw [w_id (x := p * 7) (by omega) (by omega), w_id (x := p * 7 + 3) (by omega) (by omega)]
      obtain ⟨b1, b2⟩ := tmod_pos (show 0 ≤ p * 7 + 3 by omega) (show (0 : Int) < s.length by omega)
      rw [if_pos b1, if_pos b2, if_neg (by omega)]
      have hb := rd_byte hs (Int.tmod p (s.length : Int))
      have hc := rd_byte hs (Int.tmod (p * 7 + 3) (s.length : Int))
      generalize rd s (Int.tmod p (s.length : Int)) = x at *
      generalize rd s (Int.tmod (p * 7 + 3) (s.length : Int)) = y at *
      have hd : 0 ≤ Int.tdiv p (s.length : Int) ∧ Int.tdiv p (s.length : Int) ≤ 1000000 := by
        refine ⟨Int.tdiv_nonneg hp.1 (by omega), ?_⟩
        rw [Int.tdiv_eq_ediv_of_nonneg hp.1]
        exact Int.le_trans (Int.ediv_le_self _ hp.1) hp.2
      generalize Int.tdiv p (s.length : Int) = z at *
      rw [w_id (x := x) (by omega) (by omega), w_id (x := y) (by omega) (by omega), w_id (x := z) (by omega) (by omega), w_id (x := x * 131) (by omega) (by omega), w_id (x := y * 1117) (by omega) (by omega), w_id (x := x * 131 + y * 1117) (by omega) (by omega),
        w_id (x := p * 29) (by omega) (by omega), w_id (x := x * 131 + y * 1117 + p * 29) (by omega) (by omega), w_id (x := z * 53) (by omega) (by omega), w_id (x := x * 131 + y * 1117 + p * 29 + z * 53) (by omega) (by omega)]
      have ht : 0 ≤ x * 131 + y * 1117 + p * 29 + z * 53 ∧ x * 131 + y * 1117 + p * 29 + z * 53 < 1000000000 := by omega
      generalize x * 131 + y * 1117 + p * 29 + z * 53 = t at *
      have hu : 0 ≤ Int.tdiv t 64 ∧ Int.tdiv t 64 < 1000000000 := by
        rw [Int.tdiv_eq_ediv_of_nonneg ht.1]
        omega
      rw [w_id (x := Int.tdiv t 64) (by omega) (by omega)]
      obtain ⟨c1, c2⟩ := tmod_pos (xor_pos (a := t) (b := Int.tdiv t 64) (by omega) (by omega)) (show 0 < n by omega)
      exact ⟨_, rfl, c1, c2⟩
theorem open_f (l : List Int) (hb : ∀ x ∈ l, (Lit.int .u8 x).wf = true) : ∃ s, spec_l6Open.f l = some (s, 0) ∧ Bytes s := by
  have hb' : ∀ x ∈ l, 0 ≤ x ∧ x ≤ 255 := fun x hx => by
    have := hb x hx
    simp [Lit.wf, IntKind.min, IntKind.max, IntKind.bits, IntKind.signed] at this
    omega
  unfold spec_l6Open.f
  by_cases h : (l.length : Int) > 2000
  · rw [if_pos h, if_pos (by omega)]
    exact ⟨_, rfl, by simp; omega, fun b hb => hb' b (List.mem_of_mem_take hb)⟩
  · rw [if_neg h]
    exact ⟨_, rfl, by omega, hb'⟩
theorem l71Pt_f {s : List Int} (hs : Bytes s) (p : Int) (hp : 0 ≤ p ∧ p ≤ 999990) (k : Nat) (hk : 1 ≤ k) :
    ∃ x y q, spec_l71Pt.f k s p = some (x, y, q) ∧ p ≤ q ∧ q ≤ p + 4 ∧ -1 ≤ x ∧ x ≤ 10 ∧ -1 ≤ y ∧ y ≤ 10 := by
  unfold spec_l71Pt.f
  obtain ⟨a, ha, a0, a1⟩ := pick_f hs p 10 (by omega) (by omega) k hk
  rw [ha]
  simp only [Option.bind_some]
  obtain ⟨b, hb, b0, b1⟩ := pick_f hs (p + 1) 10 (by omega) (by omega) k hk
  rw [hb]
  simp only [Option.bind_some]
  obtain ⟨c, hc, c0, c1⟩ := pick_f hs (p + 1 + 1) 40 (by omega) (by omega) k hk
  rw [hc]
  simp only [Option.bind_some]
  obtain ⟨d, hd, d0, d1⟩ := pick_f hs (p + 1 + 1 + 1) 2 (by omega) (by omega) k hk
  have hr : -1 ≤ rd [-1, 10] d ∧ rd [-1, 10] d ≤ 10 := by
    have : d = 0 ∨ d = 1 := by omega
    rcases this with rfl | rfl <;> simp [rd]
  by_cases e0 : c = 0
  · rw [if_pos e0, hd]
    simp only [Option.bind_some]
    rw [if_pos d0, if_pos (by simpa using d1)]
    exact ⟨_, _, _, rfl, by omega, by omega, hr.1, hr.2, by omega, by omega⟩
  · rw [if_neg e0]
    by_cases e1 : c = 1
    · rw [if_pos e1, hd]
      simp only [Option.bind_some]
      rw [if_pos d0, if_pos (by simpa using d1)]
      exact ⟨_, _, _, rfl, by omega, by omega, by omega, by omega, hr.1, hr.2⟩
    · rw [if_neg e1]
      exact ⟨_, _, _, rfl, by omega, by omega, by omega, by omega, by omega, by omega⟩
end Go.Proofs.Ytdacpdhpifocbaa.Q

namespace Go.Proofs.Ytdacpdhpifocbaa.Q
open Go.RowKit Go.Proofs.Ytdacpdhpifocbaa.P Go.Proofs.YtdacpdhpifocbaaW.PrintWords Go.Proofs.YtdacpdhpifocbaaW.PrintLast
set_option linter.unusedVariables false
/-- a point that is drawn -/
def Small (p : PT) : Prop := -1 ≤ p.f0 ∧ p.f0 ≤ 10 ∧ -1 ≤ p.f1 ∧ p.f1 ≤ 10
theorem small_snoc {l : List PT} {p : PT} (h : ∀ q ∈ l, Small q) (hp : Small p) : ∀ q ∈ l ++ [p], Small q := fun q hq => by
  rcases List.mem_append.1 hq with h' | h'
  · exact h q h'
  · rw [List.mem_singleton.1 h']; exact hp
end Go.Proofs.Ytdacpdhpifocbaa.Q

namespace Go.Proofs.Ytdacpdhpifocbaa.Q
open Go.RowKit Go.Proofs.Ytdacpdhpifocbaa.P Go.Proofs.YtdacpdhpifocbaaW.PrintWords Go.Proofs.YtdacpdhpifocbaaW.PrintLast
set_option linter.unusedVariables false
set_option maxHeartbeats 2000000
theorem small_ok {p : PT} (h : okP p = true) : Small p := by
  rw [okP_iff] at h
  unfold Small
  omega
theorem drawPath_l0 {s : List Int} (hs : Bytes s) : ∀ (d k : Nat) (acc : List PT) (p a b t : Int), 0 ≤ p → p + 10 * (d : Int) ≤ 900000 → acc.length + d ≤ 1000 → 3 * d + 5 ≤ k → d ≤ 1000 → (∀ q ∈ acc, Small q) → 0 ≤ a ∧ a < 10 → 0 ≤ b ∧ b < 10 → 0 ≤ t ∧ t < 4 →
    ∃ r q, spec_l72Path.l0 k acc t (d : Int) s p a b = some (r, q) ∧ p ≤ q ∧ q ≤ p + 10 * (d : Int) + 10 ∧ r.length ≤ acc.length + d + 1 ∧ ∀ q ∈ r, Small q := by
  intro d
  induction d with
  | zero =>
    intro k acc p a b t hp hp' h2 hk hd hsm ha hb ht
    obtain ⟨k, rfl⟩ : ∃ m, k = m + 1 + 1 + 1 := ⟨k - 3, by omega⟩
    simp only [spec_l72Path.l0]
    rw [if_neg (by omega)]
    obtain ⟨v, hv, v0, v1⟩ := pick_f hs p 16 (by omega) (by omega) (k + 1 + 1) (by omega)
    rw [hv]
    simp only [Option.bind_some]
    by_cases e : v = 0
    · rw [if_pos e]
      obtain ⟨x, y, q, hq, q0, q1, z0, z1, z2, z3⟩ := l71Pt_f hs (p + 1) (by omega) (k + 1 + 1) (by omega)
      rw [hq]
      simp only [Option.bind_some]
      rw [if_pos (by omega)]
      simp only [spec_l72Path.j4]
      exact ⟨_, _, rfl, by omega, by omega, by simp, small_snoc hsm ⟨z0, z1, z2, z3⟩⟩
    · rw [if_neg e]
      by_cases e1 : v = 1
      · rw [if_pos e1, if_pos (by omega)]
        simp only [spec_l72Path.j3, spec_l72Path.j4]
        exact ⟨_, _, rfl, by omega, by omega, by simp, fun q hq => by simp at hq⟩
      · rw [if_neg e1]
        simp only [spec_l72Path.j3, spec_l72Path.j4]
        exact ⟨_, _, rfl, by omega, by omega, by omega, hsm⟩
  | succ d ih =>
    intro k acc p a b t hp hp' h2 hk hd hsm ha hb ht
    obtain ⟨k, rfl⟩ : ∃ m, k = m + 1 + 1 + 1 := ⟨k - 3, by omega⟩
    simp only [spec_l72Path.l0]
    rw [if_pos (by omega)]
    obtain ⟨v, hv, v0, v1⟩ := pick_f hs p 3 (by omega) (by omega) (k + 1 + 1) (by omega)
    rw [hv]
    simp only [Option.bind_some]
    have hw : wrap64 (((d + 1 : Nat) : Int) - 1) = (d : Int) := by rw [w_id (by omega) (by omega)]; omega
    have key : ∀ (q u : Int), p ≤ q → q ≤ p + 2 → 0 ≤ u ∧ u < 4 → ∃ r q', spec_l72Path.j1 (k + 1 + 1) acc u ((d + 1 : Nat) : Int) s q a b = some (r, q') ∧ p ≤ q' ∧ q' ≤ p + 10 * ((d + 1 : Nat) : Int) + 10 ∧ r.length ≤ acc.length + (d + 1) + 1 ∧ ∀ q ∈ r, Small q := fun q u hq0 hq1 hu => by
      have hx : -1 ≤ rd [1, 0, -1, 0] u ∧ rd [1, 0, -1, 0] u ≤ 1 := by
        have : u = 0 ∨ u = 1 ∨ u = 2 ∨ u = 3 := by omega
        rcases this with rfl | rfl | rfl | rfl <;> simp [rd]
      have hy : -1 ≤ rd [0, 1, 0, -1] u ∧ rd [0, 1, 0, -1] u ≤ 1 := by
        have : u = 0 ∨ u = 1 ∨ u = 2 ∨ u = 3 := by omega
        rcases this with rfl | rfl | rfl | rfl <;> simp [rd]
      simp only [spec_l72Path.j1, Option.bind_some]
      rw [if_pos hu.1, if_pos (by simpa using hu.2), if_pos (by simpa using hu.2)]
      generalize rd [1, 0, -1, 0] u = x at *
      generalize rd [0, 1, 0, -1] u = y at *
      rw [w_id (x := a + x) (by omega) (by omega), w_id (x := b + y) (by omega) (by omega), specOk]
      simp only [Option.bind_some]
      by_cases hok : okP ⟨a + x, b + y⟩ = true
      · have hok' := okP_iff.1 hok
        simp only at hok'
        rw [if_pos hok, if_pos (by omega)]
        simp only [spec_l72Path.j2]
        rw [hw]
        obtain ⟨r, q', hr, r0, r1, r2, r3⟩ := ih k (acc ++ [⟨a + x, b + y⟩]) q (a + x) (b + y) u (by omega) (by omega) (by simp; omega) (by omega) (by omega) (small_snoc hsm (small_ok hok)) (by omega) (by omega) hu
        exact ⟨r, q', hr, by omega, by omega, by simp at r2; omega, r3⟩
      · rw [if_neg hok]
        simp only [spec_l72Path.j2]
        rw [hw]
        obtain ⟨r, q', hr, r0, r1, r2, r3⟩ := ih k acc q a b u (by omega) (by omega) (by omega) (by omega) (by omega) hsm ha hb hu
        exact ⟨r, q', hr, by omega, by omega, by omega, r3⟩
    by_cases e : v = 0
    · rw [if_pos e]
      obtain ⟨u, hu, u0, u1⟩ := pick_f hs (p + 1) 4 (by omega) (by omega) (k + 1 + 1) (by omega)
      rw [hu]
      simp only [Option.bind_some]
      exact key _ _ (by omega) (by omega) ⟨u0, u1⟩
    · rw [if_neg e]
      exact key _ _ (by omega) (by omega) ht
/-- What a path's drawing answers: at most seventeen drawn points; the reader has gone on. -/
theorem drawPath_f {s : List Int} (hs : Bytes s) (p : Int) (hp : 0 ≤ p ∧ p ≤ 1000) (k : Nat) (hk : 100 ≤ k) : ∃ r q, spec_l72Path.f k s p = some (r, q) ∧ p ≤ q ∧ q ≤ p + 200 ∧ r.length ≤ 17 ∧ ∀ q ∈ r, Small q := by
  unfold spec_l72Path.f
  obtain ⟨a, ha, a0, a1⟩ := pick_f hs p 10 (by omega) (by omega) k (by omega)
  rw [ha]
  simp only [Option.bind_some]
  obtain ⟨b, hb, b0, b1⟩ := pick_f hs (p + 1) 10 (by omega) (by omega) k (by omega)
  rw [hb]
  simp only [Option.bind_some]
  obtain ⟨t, ht, t0, t1⟩ := pick_f hs (p + 1 + 1) 4 (by omega) (by omega) k (by omega)
  rw [ht]
  simp only [Option.bind_some]
  obtain ⟨n, hn, n0, n1⟩ := pick_f hs (p + 1 + 1 + 1) 16 (by omega) (by omega) k (by omega)
  rw [hn]
  simp only [Option.bind_some]
  obtain ⟨m, rfl⟩ := Int.eq_ofNat_of_zero_le n0
  obtain ⟨r, q, hr, r0, r1, r2, r3⟩ := drawPath_l0 hs m k [⟨a, b⟩] (p + 1 + 1 + 1 + 1) a b t (by omega) (by omega) (by simp; omega) (by omega) (by omega)
    (fun q hq => by rw [List.mem_singleton.1 hq]; unfold Small; simp only; omega) ⟨a0, a1⟩ ⟨b0, b1⟩ ⟨t0, t1⟩
  exact ⟨r, q, hr, by omega, by omega, by simp at r2; omega, r3⟩
theorem drawTurns_f (l : List Int) (hb : ∀ x ∈ l, (Lit.int .u8 x).wf = true) (k : Nat) (hk : 100 ≤ k) : ∃ r, spec_DrawCodeTurns.f k l = some r ∧ r.length ≤ 17 ∧ ∀ q ∈ r, Small q := by
  obtain ⟨s, ho, hs⟩ := open_f l hb
  obtain ⟨r, q, hr, _, _, r2, r3⟩ := drawPath_f hs 0 (by omega) k hk
  unfold spec_DrawCodeTurns.f
  rw [ho]
  simp only [Option.bind_some]
  rw [hr]
  exact ⟨r, rfl, r2, r3⟩
end Go.Proofs.Ytdacpdhpifocbaa.Q

namespace Go.Proofs.Ytdacpdhpifocbaa.Pure
open Go.RowKit Go.Proofs.Ytdacpdhpifocbaa.P Go.Proofs.Ytdacpdhpifocbaa.Q Go.Proofs.YtdacpdhpifocbaaW.PrintWords Go.Proofs.YtdacpdhpifocbaaW.PrintLast
set_option linter.unusedVariables false
set_option maxHeartbeats 4000000
theorem segTurn_some {a b c : PT} (ha : okP a = true) (hb : okP b = true) (hc : okP c = true) (k : Nat) (hk : 1 ≤ k) : ∃ v, impl_SegTurn.f k a.f0 a.f1 b.f0 b.f1 c.f0 c.f1 = some v := by
  obtain ⟨k, rfl⟩ : ∃ m, k = m + 1 := ⟨k - 1, by omega⟩
  unfold impl_SegTurn.f
  rw [implOk, implOk, implOk, pt_eta, pt_eta, pt_eta, ha, hb, hc]
  simp only [Option.bind_some, if_true, impl_SegTurn.j0, Bool.not_true, Bool.false_eq_true, if_false, impl_cross.f]
  split
  · exact ⟨_, rfl⟩
  · split <;> exact ⟨_, rfl⟩
theorem turns_l0 (l b T : List PT) (hl : 1 ≤ l.length) (hb : b.length ≤ 400) (hl4 : l.length ≤ 400) (hT : T.length ≤ 400) (hT1 : 1 ≤ T.length) (hok : ∀ p ∈ T, okP p = true) (hd : Dots T) (hbl : b = l) (h0 : g T 0 = g l 0) (h9 : g T (T.length - 1) = g l (l.length - 1)) (hm : ∀ p ∈ T, p ∈ l) :
    ∀ (d k i : Nat), T.length - i = d → 2 ≤ i → d + 1000 ≤ k → laws_FnTurns.l0 k l T b true (T.length : Int) (i : Int) = some true := by
  intro d
  induction d with
  | zero =>
    intro k i hd' hi hk
    obtain ⟨k, rfl⟩ : ∃ m, k = m + 1 := ⟨k - 1, by omega⟩
    simp only [laws_FnTurns.l0]
    rw [if_neg (by omega), if_pos trivial, hbl, luSame_self l (by omega) _ (by omega)]
    simp only [Option.bind_some, if_true]
    rw [if_pos (by omega), if_pos (by omega), rd_zero, rd_zero, if_pos (by rw [eq_bool]; exact h0), w_pred (by omega) (by omega), w_pred (by omega) (by omega), if_pos (by omega), if_pos (by omega), if_pos (by omega), if_pos (by omega), rd_nat, rd_nat, if_pos (by rw [eq_bool]; exact h9), luPart_true T l (by omega) (by omega) _ (by omega) hm]
    rfl
  | succ d ih =>
    intro k i hd' hi hk
    obtain ⟨k, rfl⟩ : ∃ m, k = m + 1 := ⟨k - 1, by omega⟩
    have hn := ih k (i + 1) (by omega) (by omega) (by omega)
    simp only [laws_FnTurns.l0]
    have w2 : wrap64 ((i : Int) - 2) = ((i - 2 : Nat) : Int) := by rw [w_id (by omega) (by omega)]; omega
    rw [if_pos (by omega), w2, w_pred (by omega) (by omega), w_succ (by omega), if_pos (by omega), if_pos (by omega), if_pos (by omega), if_pos (by omega), if_pos (by omega), if_pos (by omega), rd_nat, rd_nat, rd_nat]
    have pa := hok _ (mem_g.2 ⟨i - 2, by omega, rfl⟩)
    have pb := hok _ (mem_g.2 ⟨i - 1, by omega, rfl⟩)
    have pc := hok _ (mem_g.2 ⟨i, by omega, rfl⟩)
    have hdot := hd (i - 2) (by omega)
    rw [show i - 2 + 1 = i - 1 by omega, show i - 2 + 2 = i by omega] at hdot
    obtain ⟨v, hv⟩ := segTurn_some pa pb pc k (by omega)
    rw [hv]
    simp only [Option.bind_some]
    generalize g T (i - 2) = A at *
    generalize g T (i - 1) = B at *
    generalize g T i = C at *
    by_cases hv0 : v = 0
    · rw [if_pos hv0]
      rw [okP_iff] at pa pb pc
      have m0 := w_mul (x := B.f0 - A.f0) (y := C.f0 - B.f0) (by omega) (by omega)
      have m1 := w_mul (x := B.f1 - A.f1) (y := C.f1 - B.f1) (by omega) (by omega)
      rw [w_id (x := B.f0 - A.f0) (by omega) (by omega), w_id (x := B.f1 - A.f1) (by omega) (by omega), w_id (x := C.f0 - B.f0) (by omega) (by omega), w_id (x := C.f1 - B.f1) (by omega) (by omega),
        w_id (x := (B.f0 - A.f0) * (C.f0 - B.f0)) (by omega) (by omega), w_id (x := (B.f1 - A.f1) * (C.f1 - B.f1)) (by omega) (by omega), w_id (by omega) (by omega)]
      unfold dot3 at hdot
      rw [if_neg (by omega)]
      exact hn
    · rw [if_neg hv0]
      exact hn
theorem FnTurns : laws_FnTurns.Pure := by
  intro l _ _ hwf
  obtain ⟨q, hq⟩ : ∃ q : Nat, q = 29999 := ⟨_, rfl⟩
  refine ⟨q + 1, ?_⟩
  unfold laws_FnTurns.f
  by_cases hbig : (l.length : Int) > 1048576
  · rw [if_pos hbig]
  · rw [if_neg hbig]
    obtain ⟨t, ht, t17, _⟩ := drawTurns_f l hwf (q + 1) (by omega)
    have tlen : (codeTurns t).length ≤ t.length := by
      unfold codeTurns
      split
      · have := turnsFrom_len t 0
        unfold turns
        omega
      · simp
    rw [ht]
    simp only [Option.bind_some]
    rw [implCodeTurns t (by omega) _ (by omega), specCodeTurns t (by omega) _ (by omega)]
    simp only [Option.bind_some]
    rw [luSame_self _ (by omega) _ (by omega)]
    simp only [Option.bind_some, if_true]
    by_cases hp : IsPath t
    · obtain ⟨r, hr⟩ := turns_head (l := t) (by have := hp.1; omega)
      rw [codeTurns_path hp] at tlen ⊢
      have h1 : 1 ≤ (turns t).length := by rw [hr]; simp
      rw [show (((turns t).length : Int) == 0) = false from beq_eq_false_iff_ne.2 (by omega)]
      simp only [laws_FnTurns.j0, Bool.false_eq_true, if_false]
      rw [implCodeStay _ (by omega) _ (by omega), stay_turns t hp]
      simp only [Option.bind_some]
      rw [show (2 : Int) = ((2 : Nat) : Int) from rfl]
      refine turns_l0 t t (turns t) hp.1 (by omega) (by omega) (by omega) h1 (fun p hq => by
          obtain ⟨j, hj, rfl⟩ := mem_g.1 (mem_turns hq)
          exact (hp.2.2 j (Nat.zero_le _) hj).1) (path_dots hp) rfl (by rw [hr]; rfl) (turns_last (by have := hp.1; omega)) (fun p hq => mem_turns hq) ((turns t).length - 2) q 2 rfl (by omega) ?_
      have := hp.2.1
      omega
    · have h0 : codeTurns t = [] := by unfold codeTurns; rw [if_neg hp]
      rw [h0]
      simp only [List.length_nil, laws_FnTurns.j0]
      rw [if_pos (by rfl), specCodeTurns t (by omega) _ (by omega), h0]
      simp only [Option.bind_some]
      rw [luSame_self _ (by simp) _ (by simp; omega)]
      rfl
end Go.Proofs.Ytdacpdhpifocbaa.Pure

