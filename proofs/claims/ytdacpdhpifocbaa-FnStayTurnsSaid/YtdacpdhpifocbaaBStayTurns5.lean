/- Part 6 of what StayTurns rests on: contracts of the program's functions and plain facts (the print's texts and the session's own, put together). -/
import Derived.Test.YtdacpdhpifocbaaBStayTurns4
namespace Go.Proofs.Ytdacpdhpifocbaa.Q
open Go.RowKit Go.Proofs.Ytdacpdhpifocbaa.P Go.Proofs.YtdacpdhpifocbaaW.PrintWords Go.Proofs.YtdacpdhpifocbaaW.PrintLast
set_option linter.unusedVariables false

theorem ext_g' {a b : List PT} (h : a.length = b.length) (h' : ∀ j, j < a.length → g a j = g b j) : a = b := by
  apply List.ext_getElem h
  intro i h1 h2
  have := h' i h1
  rwa [g_eq h1, g_eq h2] at this
theorem luSame_l0 (a b : List PT) (hl : a.length < 1000000000000000000) (hab : a.length = b.length) : ∀ (d k i : Nat), a.length - i = d → i ≤ a.length → d < k →
    ∃ r, laws_luSame.l0 k a b (i : Int) = some r ∧ (r = true ↔ ∀ j, i ≤ j → j < a.length → g a j = g b j) := by
  intro d
  induction d with
  | zero =>
    intro k i hd hi hk
    obtain ⟨k, rfl⟩ : ∃ m, k = m + 1 := ⟨k - 1, by omega⟩
    refine ⟨true, ?_, by simp only [true_iff]; intro j h1 h2; omega⟩
    simp only [laws_luSame.l0]
    rw [if_neg (by omega)]
  | succ d ih =>
    intro k i hd hi hk
    obtain ⟨k, rfl⟩ : ∃ m, k = m + 1 := ⟨k - 1, by omega⟩
    simp only [laws_luSame.l0]
    rw [if_pos (by omega), if_pos (by omega), if_pos (by omega), rd_nat, rd_nat]
    by_cases h : g a i = g b i
    · rw [if_neg (by rw [ne_bool]; simpa using h), w_succ (by omega)]
      obtain ⟨r, hr, hr'⟩ := ih k (i + 1) (by omega) (by omega) (by omega)
      refine ⟨r, hr, hr'.trans ⟨fun q j h1 h2 => ?_, fun q j h1 h2 => q j (by omega) h2⟩⟩
      rcases Nat.eq_or_lt_of_le h1 with e | e
      · subst e; exact h
      · exact q j e h2
    · rw [if_pos (by rw [ne_bool]; exact h)]
      exact ⟨false, rfl, by simp only [Bool.false_eq_true, false_iff]; exact fun q => h (q i (Nat.le_refl _) (by omega))⟩
theorem luSame_f (a b : List PT) (hl : a.length < 1000000000000000000) (k : Nat) (hk : a.length < k) : laws_luSame.f k a b = some (decide (a = b)) := by
  unfold laws_luSame.f
  by_cases h : a.length = b.length
  · rw [if_pos (by omega)]
    obtain ⟨r, hr, hr'⟩ := luSame_l0 a b hl h a.length k 0 (by omega) (by omega) (by omega)
    rw [show ((0 : Nat) : Int) = 0 from rfl] at hr
    rw [hr]
    congr 1
    rw [Bool.eq_iff_iff, hr', decide_eq_true_eq]
    exact ⟨fun q => ext_g' h (fun j hj => q j (by omega) hj), fun q j _ _ => by rw [q]⟩
  · rw [if_neg (by omega), decide_eq_false (fun e => h (by rw [e]))]
theorem luSame_self (a : List PT) (hl : a.length < 1000000000000000000) (k : Nat) (hk : a.length < k) : laws_luSame.f k a a = some true := by rw [luSame_f a a hl k hk]; simp
theorem mem_g {l : List PT} {p : PT} : p ∈ l ↔ ∃ j, j < l.length ∧ g l j = p := by
  rw [List.mem_iff_getElem]
  exact ⟨fun ⟨j, h, e⟩ => ⟨j, h, by rw [g_eq h]; exact e⟩, fun ⟨j, h, e⟩ => ⟨j, h, by rw [← g_eq h]; exact e⟩⟩
theorem luAmong_l0 (l : List PT) (p : PT) (hl : l.length < 1000000000000000000) : ∀ (d k i : Nat), l.length - i = d → i ≤ l.length → d < k →
    ∃ r, laws_luAmong.l0 k l (i : Int) p.f0 p.f1 = some r ∧ (r = true ↔ ∃ j, i ≤ j ∧ j < l.length ∧ g l j = p) := by
  intro d
  induction d with
  | zero =>
    intro k i hd hi hk
    obtain ⟨k, rfl⟩ : ∃ m, k = m + 1 := ⟨k - 1, by omega⟩
    refine ⟨false, ?_, by simp only [Bool.false_eq_true, false_iff]; rintro ⟨j, h1, h2, _⟩; omega⟩
    simp only [laws_luAmong.l0]
    rw [if_neg (by omega)]
  | succ d ih =>
    intro k i hd hi hk
    obtain ⟨k, rfl⟩ : ∃ m, k = m + 1 := ⟨k - 1, by omega⟩
    simp only [laws_luAmong.l0]
    rw [if_pos (by omega), if_pos (by omega), rd_nat]
    by_cases h : g l i = p
    · rw [if_pos (by rw [eq_bool]; exact h)]
      exact ⟨true, rfl, by simp only [true_iff]; exact ⟨i, Nat.le_refl _, by omega, h⟩⟩
    · rw [if_neg (by rw [eq_bool]; exact h), w_succ (by omega)]
      obtain ⟨r, hr, hr'⟩ := ih k (i + 1) (by omega) (by omega) (by omega)
      refine ⟨r, hr, hr'.trans ⟨fun ⟨j, h1, h2, h3⟩ => ⟨j, by omega, h2, h3⟩, fun ⟨j, h1, h2, h3⟩ => ⟨j, ?_, h2, h3⟩⟩⟩
      rcases Nat.eq_or_lt_of_le h1 with e | e
      · subst e; exact absurd h3 h
      · exact e
theorem luAmong_f (l : List PT) (p : PT) (hl : l.length < 1000000000000000000) (k : Nat) (hk : l.length < k) : laws_luAmong.f k l p.f0 p.f1 = some (decide (p ∈ l)) := by
  obtain ⟨r, hr, hr'⟩ := luAmong_l0 l p hl l.length k 0 (by omega) (by omega) (by omega)
  unfold laws_luAmong.f
  rw [show ((0 : Nat) : Int) = 0 from rfl] at hr
  rw [hr]
  congr 1
  rw [Bool.eq_iff_iff, hr', decide_eq_true_eq, mem_g]
  exact ⟨fun ⟨j, _, h2, h3⟩ => ⟨j, h2, h3⟩, fun ⟨j, h2, h3⟩ => ⟨j, Nat.zero_le _, h2, h3⟩⟩
theorem luPart_l0 (a b : List PT) (hl : a.length < 1000000000000000000) (hb : b.length < 1000000000000000000) : ∀ (d k i : Nat), a.length - i = d → i ≤ a.length → d + b.length + 1 < k →
    ∃ r, laws_luPart.l0 k a b (i : Int) = some r ∧ (r = true ↔ ∀ j, i ≤ j → j < a.length → g a j ∈ b) := by
  intro d
  induction d with
  | zero =>
    intro k i hd hi hk
    obtain ⟨k, rfl⟩ : ∃ m, k = m + 1 := ⟨k - 1, by omega⟩
    refine ⟨true, ?_, by simp only [true_iff]; intro j h1 h2; omega⟩
    simp only [laws_luPart.l0]
    rw [if_neg (by omega)]
  | succ d ih =>
    intro k i hd hi hk
    obtain ⟨k, rfl⟩ : ∃ m, k = m + 1 := ⟨k - 1, by omega⟩
    simp only [laws_luPart.l0]
    rw [if_pos (by omega), if_pos (by omega), rd_nat, luAmong_f b (g a i) hb k (by omega)]
    simp only [Option.bind_some, decide_eq_true_eq]
    by_cases h : g a i ∈ b
    · rw [if_pos h, w_succ (by omega)]
      obtain ⟨r, hr, hr'⟩ := ih k (i + 1) (by omega) (by omega) (by omega)
      refine ⟨r, hr, hr'.trans ⟨fun q j h1 h2 => ?_, fun q j h1 h2 => q j (by omega) h2⟩⟩
      rcases Nat.eq_or_lt_of_le h1 with e | e
      · subst e; exact h
      · exact q j e h2
    · rw [if_neg h]
      exact ⟨false, rfl, by simp only [Bool.false_eq_true, false_iff]; exact fun q => h (q i (Nat.le_refl _) (by omega))⟩
theorem luPart_f (a b : List PT) (hl : a.length < 1000000000000000000) (hb : b.length < 1000000000000000000) (k : Nat) (hk : a.length + b.length + 1 < k) : laws_luPart.f k a b = some (decide (∀ p ∈ a, p ∈ b)) := by
  obtain ⟨r, hr, hr'⟩ := luPart_l0 a b hl hb a.length k 0 (by omega) (by omega) (by omega)
  unfold laws_luPart.f
  rw [show ((0 : Nat) : Int) = 0 from rfl] at hr
  rw [hr]
  congr 1
  rw [Bool.eq_iff_iff, hr', decide_eq_true_eq]
  refine ⟨fun q p hp => ?_, fun q j _ h2 => q _ (mem_g.2 ⟨j, h2, rfl⟩)⟩
  obtain ⟨j, hj, rfl⟩ := mem_g.1 hp
  exact q j (Nat.zero_le _) hj
theorem luPart_true (a b : List PT) (hl : a.length < 1000000000000000000) (hb : b.length < 1000000000000000000) (k : Nat) (hk : a.length + b.length + 1 < k) (h : ∀ p ∈ a, p ∈ b) : laws_luPart.f k a b = some true := by
  rw [luPart_f a b hl hb k hk, decide_eq_true h]
end Go.Proofs.Ytdacpdhpifocbaa.Q

namespace Go.Proofs.Ytdacpdhpifocbaa.Q
open Go.RowKit Go.Proofs.Ytdacpdhpifocbaa.P Go.Proofs.YtdacpdhpifocbaaW.PrintWords Go.Proofs.YtdacpdhpifocbaaW.PrintLast
set_option linter.unusedVariables false

/-- bytes of a code -/
def Bytes (s : List Int) : Prop := s.length ≤ 2000 ∧ ∀ b ∈ s, 0 ≤ b ∧ b ≤ 255
theorem rd_byte {s : List Int} (hs : Bytes s) (i : Int) : 0 ≤ rd s i ∧ rd s i ≤ 255 := by
  unfold rd
  rw [List.getD_eq_getElem?_getD]
  cases h : s[i.toNat]? with
  | none => simp
  | some b =>
    obtain ⟨hi, rfl⟩ := List.getElem?_eq_some_iff.1 h
    exact hs.2 _ (List.getElem_mem hi)
theorem xor_nat (a b : Nat) (ha : a < 4611686018427387904) (hb : b < 4611686018427387904) : Go.bits .xor .i64 (a : Int) (b : Int) = ((a ^^^ b : Nat) : Int) := by
  have hx : a ^^^ b < 2 ^ 62 := Nat.xor_lt_two_pow (by simpa using ha) (by simpa using hb)
  simp only [Go.bits, BitVec.ofInt_natCast, BitVec.toNat_xor, BitVec.toNat_ofNat]
  rw [show IntKind.bits .i64 = 64 from rfl, Nat.mod_eq_of_lt (show a < 2 ^ 64 by omega), Nat.mod_eq_of_lt (show b < 2 ^ 64 by omega), IntKind.wrap_i64]
  have : (a ^^^ b) < 4611686018427387904 := by simpa using hx
  omega
theorem xor_pos {a b : Int} (ha : 0 ≤ a ∧ a < 4611686018427387904) (hb : 0 ≤ b ∧ b < 4611686018427387904) : 0 ≤ Go.bits .xor .i64 a b := by
  obtain ⟨x, rfl⟩ := Int.eq_ofNat_of_zero_le ha.1
  obtain ⟨y, rfl⟩ := Int.eq_ofNat_of_zero_le hb.1
  rw [xor_nat x y (by omega) (by omega)]
  omega
theorem tmod_pos {a b : Int} (ha : 0 ≤ a) (hb : 0 < b) : 0 ≤ Int.tmod a b ∧ Int.tmod a b < b := ⟨Int.tmod_nonneg _ ha, Int.tmod_lt_of_pos _ hb⟩
theorem pick_f {s : List Int} (hs : Bytes s) (p n : Int) (hp : 0 ≤ p ∧ p ≤ 1000000) (hn : 1 ≤ n) (k : Nat) (hk : 1 ≤ k) :
    ∃ v, spec_l6Rd_pick.f k s p n = some (v, p + 1) ∧ 0 ≤ v ∧ v < n := by
  obtain ⟨k, rfl⟩ : ∃ m, k = m + 1 := ⟨k - 1, by omega⟩
  have hl := hs.1
  unfold spec_l6Rd_pick.f
  rw [if_neg (by omega), w_id (x := p + 1) (by omega) (by omega)]
  simp only [spec_l6Rd_pick.j0]
  by_cases h0 : s.length = 0
  · rw [if_pos (by simp [h0])]
    exact ⟨0, rfl, by omega, by omega⟩
  · rw [if_neg (by simp [h0]), w_id (x := p + 1 - 1) (by omega) (by omega), show p + 1 - 1 = p by omega]
    by_cases h1 : p < (s.length : Int)
    · rw [if_pos h1, if_pos hp.1, if_neg (by omega)]
      have hb := rd_byte hs p
      rw [w_id (x := rd s p) (by omega) (by omega)]
      obtain ⟨a, b⟩ := tmod_pos hb.1 (show 0 < n by omega)
      exact ⟨_, rfl, a, b⟩
    · rw [if_neg h1, if_neg (by omega)]
      obtain ⟨a1, a2⟩ := tmod_pos hp.1 (show (0 : Int) < s.length by omega)
      rw [if_pos a1, if_pos a2]
      rw [w_id (x := p * 7) (by omega) (by omega), w_id (x := p * 7 + 3) (by omega) (by omega)]
      obtain ⟨b1, b2⟩ := tmod_pos (show 0 ≤ p * 7 + 3 by omega) (show (0 : Int) < s.length by omega)
      rw [if_pos b1, if_pos b2, if_neg (by omega)]
      have hb := rd_byte hs (Int.tmod p (s.length : Int))
      have hc := rd_byte hs (Int.tmod (p * 7 + 3) (s.length : Int))
      generalize rd s (Int.tmod p (s.length : Int)) = x at *
      generalize rd s (Int.tmod (p * 7 + 3) (s.length : Int)) = y at *
      have hd : 0 ≤ Int.tdiv p (s.length : Int) ∧ Int.tdiv p (s.length : Int) ≤ 1000000 := by
        refine ⟨Int.tdiv_nonneg hp.1 (by omega), ?_⟩
        rw [Int.tdiv_eq_ediv_of_nonneg hp.1]
        exact Int.le_trans (Int.ediv_le_self _ hp.1) hp.2
      generalize Int.tdiv p (s.length : Int) = z at *
      rw [w_id (x := x) (by omega) (by omega), w_id (x := y) (by omega) (by omega), w_id (x := z) (by omega) (by omega), w_id (x := x * 131) (by omega) (by omega), w_id (x := y * 1117) (by omega) (by omega), w_id (x := x * 131 + y * 1117) (by omega) (by omega),
        w_id (x := p * 29) (by omega) (by omega), w_id (x := x * 131 + y * 1117 + p * 29) (by omega) (by omega), w_id (x := z * 53) (by omega) (by omega), w_id (x := x * 131 + y * 1117 + p * 29 + z * 53) (by omega) (by omega)]
      have ht : 0 ≤ x * 131 + y * 1117 + p * 29 + z * 53 ∧ x * 131 + y * 1117 + p * 29 + z * 53 < 1000000000 := by omega
      generalize x * 131 + y * 1117 + p * 29 + z * 53 = t at *
      have hu : 0 ≤ Int.tdiv t 64 ∧ Int.tdiv t 64 < 1000000000 := by
        rw [Int.tdiv_eq_ediv_of_nonneg ht.1]
        omega
      rw [w_id (x := Int.tdiv t 64) (by omega) (by omega)]
      obtain ⟨c1, c2⟩ := tmod_pos (xor_pos (a := t) (b := Int.tdiv t 64) (by omega) (by omega)) (show 0 < n by omega)
      exact ⟨_, rfl, c1, c2⟩
theorem open_f (l : List Int) (hb : ∀ x ∈ l, (Lit.int .u8 x).wf = true) : ∃ s, spec_l6Open.f l = some (s, 0) ∧ Bytes s := by
  have hb' : ∀ x ∈ l, 0 ≤ x ∧ x ≤ 255 := fun x hx => by
    have := hb x hx
    simp [Lit.wf, IntKind.min, IntKind.max, IntKind.bits, IntKind.signed] at this
    omega
  unfold spec_l6Open.f
  by_cases h : (l.length : Int) > 2000
  · rw [if_pos h, if_pos (by omega)]
    exact ⟨_, rfl, by simp; omega, fun b hb => hb' b (List.mem_of_mem_take hb)⟩
  · rw [if_neg h]
    exact ⟨_, rfl, by omega, hb'⟩
theorem l71Pt_f {s : List Int} (hs : Bytes s) (p : Int) (hp : 0 ≤ p ∧ p ≤ 999990) (k : Nat) (hk : 1 ≤ k) :
    ∃ x y q, spec_l71Pt.f k s p = some (x, y, q) ∧ p ≤ q ∧ q ≤ p + 4 ∧ -1 ≤ x ∧ x ≤ 10 ∧ -1 ≤ y ∧ y ≤ 10 := by
  unfold spec_l71Pt.f
  obtain ⟨a, ha, a0, a1⟩ := pick_f hs p 10 (by omega) (by omega) k hk
  rw [ha]
  simp only [Option.bind_some]
  obtain ⟨b, hb, b0, b1⟩ := pick_f hs (p + 1) 10 (by omega) (by omega) k hk
  rw [hb]
  simp only [Option.bind_some]
  obtain ⟨c, hc, c0, c1⟩ := pick_f hs (p + 1 + 1) 40 (by omega) (by omega) k hk
  rw [hc]
  simp only [Option.bind_some]
  obtain ⟨d, hd, d0, d1⟩ := pick_f hs (p + 1 + 1 + 1) 2 (by omega) (by omega) k hk
  have hr : -1 ≤ rd [-1, 10] d ∧ rd [-1, 10] d ≤ 10 := by
    have : d = 0 ∨ d = 1 := by omega
    rcases this with rfl | rfl <;> simp [rd]
  by_cases e0 : c = 0
  · rw [if_pos e0, hd]
    simp only [Option.bind_some]
    rw [if_pos d0, if_pos (by simpa using d1)]
    exact ⟨_, _, _, rfl, by omega, by omega, hr.1, hr.2, by omega, by omega⟩
  · rw [if_neg e0]
    by_cases e1 : c = 1
    · rw [if_pos e1, hd]
      simp only [Option.bind_some]
      rw [if_pos d0, if_pos (by simpa using d1)]
      exact ⟨_, _, _, rfl, by omega, by omega, by omega, by omega, hr.1, hr.2⟩
    · rw [if_neg e1]
      exact ⟨_, _, _, rfl, by omega, by omega, by omega, by omega, by omega, by omega⟩
end Go.Proofs.Ytdacpdhpifocbaa.Q

namespace Go.Proofs.Ytdacpdhpifocbaa.Q
open Go.RowKit Go.Proofs.Ytdacpdhpifocbaa.P Go.Proofs.YtdacpdhpifocbaaW.PrintWords Go.Proofs.YtdacpdhpifocbaaW.PrintLast
set_option linter.unusedVariables false
theorem drawStay_l0 {s : List Int} (hs : Bytes s) : ∀ (d k : Nat) (acc : List PT) (p a b : Int), 0 ≤ p → p + 10 * (d : Int) ≤ 900000 → 1 ≤ acc.length → acc.length + d ≤ 1000 → d + 2 ≤ k → d ≤ 1000 →
    ∃ r, spec_DrawCodeStay.l0 k acc (d : Int) s p a b = some r ∧ 1 ≤ r.length ∧ r.length ≤ acc.length + d + 1 := by
  intro d
  induction d with
  | zero =>
    intro k acc p a b hp hp' h1 h2 hk hd
    obtain ⟨k, rfl⟩ : ∃ m, k = m + 1 := ⟨k - 1, by omega⟩
    simp only [spec_DrawCodeStay.l0]
    rw [if_neg (by omega)]
    obtain ⟨v, hv, v0, v1⟩ := pick_f hs p 12 (by omega) (by omega) k (by omega)
    rw [hv]
    simp only [Option.bind_some]
    by_cases e : v = 0
    · rw [if_pos e]
      obtain ⟨x, y, q, hq, _⟩ := l71Pt_f hs (p + 1) (by omega) k (by omega)
      rw [hq]
      simp only [Option.bind_some]
      rw [if_pos (by omega)]
      exact ⟨_, rfl, by simp, by simp⟩
    · rw [if_neg e]
      exact ⟨_, rfl, h1, by omega⟩
  | succ d ih =>
    intro k acc p a b hp hp' h1 h2 hk hd
    obtain ⟨k, rfl⟩ : ∃ m, k = m + 1 := ⟨k - 1, by omega⟩
    simp only [spec_DrawCodeStay.l0]
    have hw : wrap64 (((d + 1 : Nat) : Int) - 1) = (d : Int) := by rw [w_id (by omega) (by omega)]; omega
    have hl : wrap64 ((acc.length : Int) - 1) = ((acc.length - 1 : Nat) : Int) := w_pred (by omega) (by omega)
    rw [if_pos (by omega), hw, hl]
    obtain ⟨v, hv, v0, v1⟩ := pick_f hs p 2 (by omega) (by omega) k (by omega)
    rw [hv]
    simp only [Option.bind_some]
    have grow : ∀ (c : PT) (q x y : Int), p ≤ q → q ≤ p + 10 → ∃ r, spec_DrawCodeStay.l0 k (acc ++ [c]) (d : Int) s q x y = some r ∧ 1 ≤ r.length ∧ r.length ≤ acc.length + (d + 1) + 1 := fun c q x y q0 q1 => by
      obtain ⟨r, hr, r1, r2⟩ := ih k (acc ++ [c]) q x y (by omega) (by omega) (by simp) (by simp; omega) (by omega) (by omega)
      exact ⟨r, hr, r1, by simp at r2; omega⟩
    have stays : ∀ (q x y : Int), p ≤ q → q ≤ p + 10 → ∃ r, spec_DrawCodeStay.l0 k acc (d : Int) s q x y = some r ∧ 1 ≤ r.length ∧ r.length ≤ acc.length + (d + 1) + 1 := fun q x y q0 q1 => by
      obtain ⟨r, hr, r1, r2⟩ := ih k acc q x y (by omega) (by omega) h1 (by omega) (by omega) (by omega)
      exact ⟨r, hr, r1, by omega⟩
    obtain ⟨u, hu, u0, u1⟩ := pick_f hs (p + 1) 10 (by omega) (by omega) k (by omega)
    obtain ⟨t, ht, t0, t1⟩ := pick_f hs (p + 1 + 1) 20 (by omega) (by omega) k (by omega)
    by_cases e : v = 0
    · rw [if_pos e, hu]
      simp only [Option.bind_some]
      rw [if_pos (by omega), if_pos (by omega), ht]
      simp only [Option.bind_some]
      split
      · rw [if_pos (by omega)]
        exact grow _ _ _ _ (by omega) (by omega)
      · split
        · rw [if_pos (by omega)]
          exact grow _ _ _ _ (by omega) (by omega)
        · exact stays _ _ _ (by omega) (by omega)
    · rw [if_neg e, hu]
      simp only [Option.bind_some]
      rw [if_pos (by omega), if_pos (by omega), ht]
      simp only [Option.bind_some]
      split
      · rw [if_pos (by omega)]
        exact grow _ _ _ _ (by omega) (by omega)
      · split
        · rw [if_pos (by omega)]
          exact grow _ _ _ _ (by omega) (by omega)
        · exact stays _ _ _ (by omega) (by omega)
theorem drawStay_f (l : List Int) (hb : ∀ x ∈ l, (Lit.int .u8 x).wf = true) (k : Nat) (hk : 100 ≤ k) : ∃ r, spec_DrawCodeStay.f k l = some r ∧ 1 ≤ r.length ∧ r.length ≤ 8 := by
  obtain ⟨s, ho, hs⟩ := open_f l hb
  unfold spec_DrawCodeStay.f
  rw [ho]
  simp only [Option.bind_some]
  obtain ⟨a, ha, _, _⟩ := pick_f hs 0 10 (by omega) (by omega) k (by omega)
  rw [ha]
  simp only [Option.bind_some]
  obtain ⟨b, hb, _, _⟩ := pick_f hs (0 + 1) 10 (by omega) (by omega) k (by omega)
  rw [hb]
  simp only [Option.bind_some]
  obtain ⟨n, hn, n0, n1⟩ := pick_f hs (0 + 1 + 1) 7 (by omega) (by omega) k (by omega)
  rw [hn]
  simp only [Option.bind_some]
  obtain ⟨m, rfl⟩ := Int.eq_ofNat_of_zero_le n0
  obtain ⟨r, hr, r1, r2⟩ := drawStay_l0 hs m k [⟨a, b⟩] (0 + 1 + 1 + 1) a b (by omega) (by omega) (by simp) (by simp; omega) (by omega) (by omega)
  exact ⟨r, hr, r1, by simp at r2; omega⟩
end Go.Proofs.Ytdacpdhpifocbaa.Q

namespace Go.Proofs.Ytdacpdhpifocbaa.Pure
open Go.RowKit Go.Proofs.Ytdacpdhpifocbaa.P Go.Proofs.Ytdacpdhpifocbaa.Q Go.Proofs.YtdacpdhpifocbaaW.PrintWords Go.Proofs.YtdacpdhpifocbaaW.PrintLast
set_option linter.unusedVariables false
theorem FnStayTurns : laws_FnStayTurns.Pure := by
  intro l _ _ hwf
  refine ⟨30000, ?_⟩
  unfold laws_FnStayTurns.f
  by_cases hbig : (l.length : Int) > 1048576
  · rw [if_pos hbig]
  · rw [if_neg hbig]
    obtain ⟨t, ht, t1, t8⟩ := drawStay_f l hwf 30000 (by omega)
    rw [ht]
    simp only [Option.bind_some]
    rw [specCodeStay t (by omega) _ (by omega), implCodeStay t (by omega) _ (by omega)]
    simp only [Option.bind_some]
    cases hs : stay t with
    | mk p ok =>
    have hlen : p.length ≤ 400 := by
      have : ∀ (r : Option (List PT)) (acc : List PT), (fin r acc).1.length ≤ 400 := fun r acc => by
        unfold fin
        cases r with
        | none => simp
        | some l =>
          simp only
          split
          · assumption
          · simp
      have h2 : (stay t).1.length ≤ 400 := by
        unfold stay
        match t with
        | [] => simp
        | a :: r =>
          simp only
          split
          · exact this _ _
          · simp
      rw [hs] at h2
      exact h2
    simp only [bne_self_eq_false, Bool.false_eq_true, if_false]
    rw [luSame_self p (by omega) _ (by omega)]
    simp only [Option.bind_some, if_true]
    cases ok with
    | false =>
      rw [show (30000 : Nat) = 29999 + 1 from rfl]
      simp only [laws_FnStayTurns.j0, Bool.not_false, if_true, beq_self_eq_true]
      rw [luSame_self p (by omega) _ (by omega)]
      rfl
    | true =>
      obtain ⟨hp, hsub⟩ := stay_true hs
      rw [show (30000 : Nat) = 29999 + 1 from rfl]
      simp only [laws_FnStayTurns.j0, Bool.not_true, Bool.false_eq_true, if_false]
      rw [implCodeTurns p (by omega) _ (by omega), codeTurns_path hp]
      have hl := hsub.length_le
      simp only [Option.bind_some]
      rw [implCodeStay _ (by omega) _ (by omega), stay_turns p hp]
      simp only [Option.bind_some]
      rw [if_pos (by omega), if_pos trivial, luSame_self p (by omega) _ (by omega)]
      simp only [Option.bind_some, if_true]
      rw [luPart_true _ _ (by omega) (by omega) _ (by omega) (fun q hq => hsub.subset hq)]
      rfl
end Go.Proofs.Ytdacpdhpifocbaa.Pure

