/- Part 6 of what CodeCut rests on: contracts of the program's functions and plain facts (the print's texts and the session's own, put together). -/
import Derived.Test.YtdacpdhpifocbaaDoorBCodeCut4
namespace Go.Proofs.YtdacpdhpifocbaaDoor.Q
open Go.RowKit Go.Proofs.YtdacpdhpifocbaaDoor.P Go.Proofs.YtdacpdhpifocbaaDoorW.PrintWords Go.Proofs.YtdacpdhpifocbaaDoorW.PrintLast
set_option linter.unusedVariables false

theorem extend {a b c : PT} {n : Nat} (hl : InLine b c) (hd : dist b c = n + 1) (hs : Step a b) (h0 : (nxt b c).f0 - b.f0 = b.f0 - a.f0) (h1 : (nxt b c).f1 - b.f1 = b.f1 - a.f1) :
    InLine a c ∧ dist a c = n + 2 ∧ nxt a c = b ∧ a ≠ c := by
  have e0 : (nxt b c).f0 = b.f0 + sgn b.f0 c.f0 := rfl
  have e1 : (nxt b c).f1 = b.f1 + sgn b.f1 c.f1 := rfl
  rw [e0] at h0
  rw [e1] at h1
  have key : InLine a c ∧ dist a c = n + 2 ∧ (a.f0 + sgn a.f0 c.f0 = b.f0 ∧ a.f1 + sgn a.f1 c.f1 = b.f1) := by
    unfold dist InLine Step at *
    rcases sgn_spec b.f0 c.f0 with ⟨p, e⟩ | ⟨p, e⟩ | ⟨p, e⟩ <;> rcases sgn_spec b.f1 c.f1 with ⟨p', e'⟩ | ⟨p', e'⟩ | ⟨p', e'⟩ <;> rw [e] at h0 <;> rw [e'] at h1 <;>
      rcases sgn_spec a.f0 c.f0 with ⟨q, f⟩ | ⟨q, f⟩ | ⟨q, f⟩ <;> rcases sgn_spec a.f1 c.f1 with ⟨q', f'⟩ | ⟨q', f'⟩ | ⟨q', f'⟩ <;> rw [f, f'] <;> omega
  refine ⟨key.1, key.2.1, PT.ext key.2.2.1 key.2.2.2, fun e => ?_⟩
  rw [dist_zero.2 e] at key
  omega
theorem step_nxt {a b : PT} (hs : Step a b) : InLine a b ∧ dist a b = 1 ∧ nxt a b = b ∧ a ≠ b := by
  have key : InLine a b ∧ dist a b = 1 ∧ (a.f0 + sgn a.f0 b.f0 = b.f0 ∧ a.f1 + sgn a.f1 b.f1 = b.f1) := by
    unfold dist InLine Step at *
    rcases sgn_spec a.f0 b.f0 with ⟨q, f⟩ | ⟨q, f⟩ | ⟨q, f⟩ <;> rcases sgn_spec a.f1 b.f1 with ⟨q', f'⟩ | ⟨q', f'⟩ | ⟨q', f'⟩ <;> rw [f, f'] <;> omega
  refine ⟨key.1, key.2.1, PT.ext key.2.2.1 key.2.2.2, fun e => ?_⟩
  rw [dist_zero.2 e] at key
  omega
theorem drop_g {l : List PT} {i : Nat} (h : i < l.length) : l.drop i = g l i :: l.drop (i + 1) := by rw [List.drop_eq_getElem_cons h, g_eq h]
theorem stayGo_turns (l : List PT) (hp : PathTo l 0) : ∀ (d i : Nat), l.length - i = d + 1 → stayGo (g l i) (turnsFrom l (i + 1)) = some (l.drop (i + 1)) := by
  intro d
  induction d with
  | zero =>
    intro i hd
    rw [turnsFrom_end l (i + 1) (by omega), List.drop_of_length_le (by omega)]
    rfl
  | succ d ih =>
    intro i hd
    have hs : Step (g l i) (g l (i + 1)) := (hp (i + 1) (by omega) (by omega)).2 (by omega)
    have hb := (hp (i + 1) (by omega) (by omega)).1
    have h := ih (i + 1) (by omega)
    rw [turnsFrom_step l (i + 1) (by omega)]
    by_cases ht : turnAt l (i + 1) = true
    · rw [if_pos ht, List.singleton_append]
      obtain ⟨h1, h2, h3, h4⟩ := step_nxt hs
      simp only [stayGo]
      rw [if_pos (good_iff.2 ⟨hb, h4, h1⟩), h, h2]
      simp only [leg, Option.map_some, h3, List.singleton_append]
      rw [drop_g (show i + 1 < l.length by omega)]
    · rw [if_neg ht, List.nil_append]
      have hlast : i + 1 + 1 < l.length := by
        rcases Nat.lt_or_ge (i + 1 + 1) l.length with h' | h'
        · exact h'
        · exact absurd (show turnAt l (i + 1) = true by simp [turnAt]; omega) ht
      have hg : goesOn (g l i) (g l (i + 1)) (g l (i + 1 + 1)) = true := by
        simp only [turnAt, Bool.or_eq_true, Bool.not_eq_true', not_or] at ht
        simpa using ht.2
      simp only [goesOn, Bool.and_eq_true, beq_iff_eq] at hg
      rw [drop_g hlast] at h
      cases hc : turnsFrom l (i + 1 + 1) with
      | nil =>
        rw [hc] at h
        simp [stayGo] at h
      | cons c t =>
        rw [hc] at h
        simp only [stayGo] at h ⊢
        by_cases hgd : good (g l (i + 1)) c = true
        · rw [if_pos hgd] at h
          obtain ⟨hok, hne, hl⟩ := good_iff.1 hgd
          obtain ⟨n, hn⟩ : ∃ n, dist (g l (i + 1)) c = n + 1 := ⟨dist (g l (i + 1)) c - 1, by
            have : dist (g l (i + 1)) c ≠ 0 := fun e => hne (dist_zero.1 e)
            omega⟩
          obtain ⟨m, hm, hm'⟩ := Option.map_eq_some_iff.1 h
          rw [hn] at hm'
          simp only [leg, List.cons_append] at hm'
          obtain ⟨e1, e2⟩ := List.cons.inj hm'
          obtain ⟨x1, x2, x3, x4⟩ := extend hl hn hs (by rw [e1]; exact hg.1) (by rw [e1]; exact hg.2)
          rw [if_pos (good_iff.2 ⟨hok, x4, x1⟩), hm, x2]
          simp only [Option.map_some]
          rw [drop_g (show i + 1 < l.length by omega), drop_g hlast, ← hm']
          simp [leg, x3, e1]
        · rw [if_neg hgd] at h
          cases h
theorem stay_turns (l : List PT) (hp : IsPath l) : stay (turns l) = (l, true) := by
  obtain ⟨h1, h2, hp⟩ := hp
  have h := stayGo_turns l hp (l.length - 1) 0 (by omega)
  unfold turns
  rw [turnsFrom_step l 0 (by omega), if_pos (by simp [turnAt]), List.singleton_append]
  simp only [stay]
  have hlen : (turnsFrom l (0 + 1)).length ≤ l.length - 1 := by
    unfold turnsFrom
    rw [List.length_map]
    exact Nat.le_trans (List.length_filter_le _ _) (by simp)
  rw [if_pos ⟨by omega, (hp 0 (by omega) (by omega)).1⟩, h]
  have e : [g l 0] ++ l.drop 1 = l := by
    have := drop_g (show 0 < l.length by omega)
    simpa using this.symm
  simp only [fin]
  rw [e, if_pos h2]

theorem turns_leg (b : PT) (m : List PT) : ∀ (n : Nat) (acc : List PT) (a : PT), Ends acc a → InLine a b → dist a b = n + 1 →
    turnsFrom (acc ++ leg (n + 1) a b ++ m) acc.length = (if turnAt (acc ++ leg (n + 1) a b ++ m) (acc.length + n) = true then [b] else []) ++ turnsFrom (acc ++ leg (n + 1) a b ++ m) (acc.length + n + 1) := by
  intro n
  induction n with
  | zero =>
    intro acc a he hl hd
    obtain ⟨h1, h2, h3, h4⟩ := nxt_dist hl 0 hd
    rw [dist_zero] at h1
    rw [turnsFrom_step _ acc.length (by simp [leg_length]; omega)]
    have hg : g (acc ++ leg (0 + 1) a b ++ m) acc.length = b := by
      rw [g_append_left (by simp [leg_length])]
      simp only [leg, h1]
      exact g_append_last acc b
    rw [hg]
    simp only [Nat.add_zero]
  | succ n ih =>
    intro acc a he hl hd
    obtain ⟨h1, h2, h3, h4⟩ := nxt_dist hl (n + 1) hd
    have e : acc ++ leg (n + 1 + 1) a b ++ m = (acc ++ [nxt a b]) ++ leg (n + 1) (nxt a b) b ++ m := by simp [leg]
    have he' : Ends (acc ++ [nxt a b]) (nxt a b) := by
      refine ⟨by simp, ?_⟩
      rw [show (acc ++ [nxt a b]).length - 1 = acc.length by simp]
      exact g_append_last acc _
    have h := ih (acc ++ [nxt a b]) (nxt a b) he' h2 h1
    have hlen : ((acc ++ [nxt a b]) ++ leg (n + 1) (nxt a b) b ++ m).length = acc.length + 1 + (n + 1) + m.length := by simp [leg_length]; omega
    have g0 : g ((acc ++ [nxt a b]) ++ leg (n + 1) (nxt a b) b ++ m) (acc.length - 1) = a := by
      have := he.1
      rw [List.append_assoc, List.append_assoc, g_append_left (by omega), he.2]
    have g1 : g ((acc ++ [nxt a b]) ++ leg (n + 1) (nxt a b) b ++ m) acc.length = nxt a b := by
      rw [List.append_assoc, g_append_left (by simp), g_append_last]
    have g2 : g ((acc ++ [nxt a b]) ++ leg (n + 1) (nxt a b) b ++ m) (acc.length + 1) = nxt (nxt a b) b := by
      have e2 : (acc ++ [nxt a b]) ++ leg (n + 1) (nxt a b) b ++ m = ((acc ++ [nxt a b]) ++ [nxt (nxt a b) b]) ++ (leg n (nxt (nxt a b) b) b ++ m) := by simp [leg]
      rw [e2, g_append_left (by simp), show acc.length + 1 = (acc ++ [nxt a b]).length by simp, g_append_last]
    have hnt : turnAt ((acc ++ [nxt a b]) ++ leg (n + 1) (nxt a b) b ++ m) acc.length = false := by
      unfold turnAt
      rw [g0, g1, g2]
      have hdir := h4 (by omega)
      have := he.1
      have x0 : (nxt (nxt a b) b).f0 - (nxt a b).f0 = (nxt a b).f0 - a.f0 := by
        have p0 : (nxt (nxt a b) b).f0 = (nxt a b).f0 + sgn (nxt a b).f0 b.f0 := rfl
        have p1 : (nxt a b).f0 = a.f0 + sgn a.f0 b.f0 := rfl
        rw [p0, hdir.1]
        omega
      have x1 : (nxt (nxt a b) b).f1 - (nxt a b).f1 = (nxt a b).f1 - a.f1 := by
        have p0 : (nxt (nxt a b) b).f1 = (nxt a b).f1 + sgn (nxt a b).f1 b.f1 := rfl
        have p1 : (nxt a b).f1 = a.f1 + sgn a.f1 b.f1 := rfl
        rw [p0, hdir.2]
        omega
      have hgo : goesOn a (nxt a b) (nxt (nxt a b) b) = true := by simp only [goesOn, Bool.and_eq_true, beq_iff_eq]; exact ⟨x0, x1⟩
      rw [hgo, decide_eq_false (by omega), decide_eq_false (by omega)]
      rfl
    rw [e, turnsFrom_step _ acc.length (by omega), hnt, if_neg (by decide), List.nil_append]
    rw [show (acc ++ [nxt a b]).length = acc.length + 1 by simp] at h
    rw [h]
    rw [show acc.length + 1 + n = acc.length + (n + 1) by omega]
theorem turns_sub : ∀ (r acc m : List PT) (a : PT), stayGo a r = some m → Ends acc a → List.Sublist (turnsFrom (acc ++ m) acc.length) r := by
  intro r
  induction r with
  | nil =>
    intro acc m a h he
    simp only [stayGo, Option.some.injEq] at h
    subst h
    rw [List.append_nil, turnsFrom_end _ _ (Nat.le_refl _)]
    exact List.Sublist.slnil
  | cons b r ih =>
    intro acc m a h he
    simp only [stayGo] at h
    by_cases hgd : good a b = true
    · rw [if_pos hgd] at h
      obtain ⟨hok, hne, hl⟩ := good_iff.1 hgd
      obtain ⟨n, hn⟩ : ∃ n, dist a b = n + 1 := ⟨dist a b - 1, by
        have : dist a b ≠ 0 := fun e => hne (dist_zero.1 e)
        omega⟩
      obtain ⟨m', hm, rfl⟩ := Option.map_eq_some_iff.1 h
      rw [hn, ← List.append_assoc, turns_leg b m' n acc a he hl hn]
      have he' : Ends (acc ++ leg (n + 1) a b) b := by
        clear h hm ih
        refine ⟨by rw [List.length_append, leg_length]; omega, ?_⟩
        have key : ∀ (n : Nat) (acc : List PT) (a : PT), InLine a b → dist a b = n + 1 → g (acc ++ leg (n + 1) a b) ((acc ++ leg (n + 1) a b).length - 1) = b := by
          intro n
          induction n with
          | zero =>
            intro acc a hl hd
            obtain ⟨h1, _⟩ := nxt_dist hl 0 hd
            rw [dist_zero] at h1
            simp only [leg, h1]
            rw [show (acc ++ [b]).length - 1 = acc.length by simp]
            exact g_append_last acc b
          | succ n ih =>
            intro acc a hl hd
            obtain ⟨h1, h2, _⟩ := nxt_dist hl (n + 1) hd
            have := ih (acc ++ [nxt a b]) (nxt a b) h2 h1
            rw [show acc ++ leg (n + 1 + 1) a b = (acc ++ [nxt a b]) ++ leg (n + 1) (nxt a b) b by simp [leg]]
            exact this
        exact key n acc a hl hn
      have hsub := ih (acc ++ leg (n + 1) a b) m' b hm he'
      rw [show (acc ++ leg (n + 1) a b).length = acc.length + n + 1 by simp [leg_length]; omega] at hsub
      split
      · exact List.Sublist.cons_cons b hsub
      · exact List.Sublist.cons b hsub
    · rw [if_neg hgd] at h
      cases h
theorem stayGo_path : ∀ (r acc m : List PT) (a : PT), stayGo a r = some m → okP a = true → PathTo acc 0 → Ends acc a → PathTo (acc ++ m) 0 := by
  intro r
  induction r with
  | nil =>
    intro acc m a h ha hp he
    simp only [stayGo, Option.some.injEq] at h
    subst h
    simpa using hp
  | cons b r ih =>
    intro acc m a h ha hp he
    simp only [stayGo] at h
    by_cases hgd : good a b = true
    · rw [if_pos hgd] at h
      obtain ⟨hok, hne, hl⟩ := good_iff.1 hgd
      obtain ⟨m', hm, rfl⟩ := Option.map_eq_some_iff.1 h
      obtain ⟨hp', he'⟩ := pathTo_leg b hok _ acc a ha hl rfl hp he
      rw [← List.append_assoc]
      exact ih _ m' b hm hok hp' he'
    · rw [if_neg hgd] at h
      cases h
theorem stay_true {t l : List PT} (h : stay t = (l, true)) : IsPath l ∧ List.Sublist (turns l) t := by
  match t, h with
  | [], h => simp [stay] at h
  | a :: r, h =>
    simp only [stay] at h
    by_cases hc : r.length ≤ 399 ∧ okP a = true
    · rw [if_pos hc] at h
      cases hm : stayGo a r with
      | none => rw [hm] at h; simp [fin] at h
      | some m =>
        rw [hm] at h
        simp only [fin] at h
        by_cases h4 : ([a] ++ m).length ≤ 400
        · rw [if_pos h4] at h
          obtain rfl : [a] ++ m = l := (Prod.mk.inj h).1
          obtain ⟨hp, he⟩ := one_path hc.2
          refine ⟨⟨by simp, h4, stayGo_path r [a] m a hm hc.2 hp he⟩, ?_⟩
          unfold turns
          rw [turnsFrom_step _ 0 (by simp), if_pos (by simp [turnAt])]
          exact List.Sublist.cons_cons a (turns_sub r [a] m a hm he)
        · rw [if_neg h4] at h
          simp at h
    · rw [if_neg hc] at h
      simp at h
theorem codeTurns_path {l : List PT} (h : IsPath l) : codeTurns l = turns l := by unfold codeTurns; rw [if_pos h]
end Go.Proofs.YtdacpdhpifocbaaDoor.Q

namespace Go.Proofs.YtdacpdhpifocbaaDoor.Q
open Go.RowKit Go.Proofs.YtdacpdhpifocbaaDoor.P Go.Proofs.YtdacpdhpifocbaaDoor.Ch Go.Proofs.YtdacpdhpifocbaaDoorW.PrintWords Go.Proofs.YtdacpdhpifocbaaDoorW.PrintLast
set_option linter.unusedVariables false

theorem mem_g0 {l : List PT} {p : PT} : p ∈ l ↔ ∃ j, j < l.length ∧ g l j = p := by
  rw [List.mem_iff_getElem]
  exact ⟨fun ⟨j, h, e⟩ => ⟨j, h, by rw [g_eq h]; exact e⟩, fun ⟨j, h, e⟩ => ⟨j, h, by rw [← g_eq h]; exact e⟩⟩
theorem turns_mem {l : List PT} {p : PT} (h : p ∈ turns l) : p ∈ l := by
  unfold turns turnsFrom at h
  obtain ⟨j, hj, rfl⟩ := List.mem_map.1 h
  have := (List.mem_filter.1 hj).1
  rw [List.mem_range'] at this
  obtain ⟨i, hi, rfl⟩ := this
  exact mem_g0.2 ⟨0 + 1 * i, by omega, rfl⟩
theorem turns_le (l : List PT) : (turns l).length ≤ l.length := by
  unfold turns turnsFrom
  rw [List.length_map]
  exact Nat.le_trans (List.length_filter_le _ _) (by simp)
theorem path_ok {l : List PT} (h : IsPath l) : ∀ p ∈ l, okP p = true := fun p hp => by
  obtain ⟨j, hj, rfl⟩ := mem_g0.1 hp
  exact (h.2.2 j (Nat.zero_le _) hj).1
theorem codeTurns_small (l : List PT) : smallPts (codeTurns l) = true := by
  unfold codeTurns
  split
  · rename_i h
    simp only [smallPts, Bool.and_eq_true, List.all_eq_true, decide_eq_true_eq]
    refine ⟨Nat.le_trans (turns_le l) h.2.1, fun p hp => ?_⟩
    have := okP_iff.1 (path_ok h p (turns_mem hp))
    omega
  · rfl
noncomputable def cwText (l : List PT) : ByteArray := ⟨(wlines 0 (codeTurns l)).toArray⟩
theorem implCodeWrite (l : List PT) (hl : l.length < 1000000000000000000) (k : Nat) (hk : l.length + 2 ≤ k) : impl_CodeWrite.f k l = some (cwText l) := by
  unfold impl_CodeWrite.f cwText
  rw [implCodeTurns l hl k hk]
  simp only [Option.bind_some]
  rw [if_pos (codeTurns_small l)]
theorem dec1 (x : Int) (h0 : 0 ≤ x) (h9 : x ≤ 9) (k : Nat) (hk : 1 ≤ k) : spec_l6Dec.f k x = some ⟨#[UInt8.ofNat (48 + x.toNat)]⟩ := by
  obtain ⟨k, rfl⟩ : ∃ m, k = m + 1 := ⟨k - 1, by omega⟩
  simp only [spec_l6Dec.f]
  rw [if_neg (by omega), if_neg (by omega), if_pos (by omega), w_id (by omega) (by omega)]
  congr 1
  unfold strOfNums
  simp only [List.map_cons, List.map_nil]
  congr 3
  rw [show (48 + x) % 256 = ((48 + x.toNat : Nat) : Int) by omega, Int.toNat_natCast]
theorem line_app (b : ByteArray) (i : Nat) (p : PT) (a : UInt8) (ha : a = if i = 0 then 48 else 49) : ((((((b ++ (⟨#[71, a]⟩ : ByteArray)) ++ (⟨#[32, 88]⟩ : ByteArray)) ++ (⟨#[UInt8.ofNat (48 + p.f0.toNat)]⟩ : ByteArray)) ++ (⟨#[32, 89]⟩ : ByteArray)) ++ (⟨#[UInt8.ofNat (48 + p.f1.toNat)]⟩ : ByteArray)) ++ (⟨#[10]⟩ : ByteArray)) = b ++ ⟨(lineL i p.f0.toNat p.f1.toNat).toArray⟩ := by
  subst ha
  apply ByteArray.ext
  simp [ByteArray.data_append, lineL, Array.append_assoc]
theorem l22Write_l0 (t : List PT) (ht : t.length ≤ 400) (hok : ∀ p ∈ t, okP p = true) : ∀ (d k i : Nat) (b : ByteArray), t.length - i = d → i ≤ t.length → d + 1 < k → b.size ≤ 9 * i →
    spec_l22Write.l0 k t b (i : Int) = some (b ++ ⟨(wlines i (t.drop i)).toArray⟩) := by
  intro d
  induction d with
  | zero =>
    intro k i b hd hi hk hb
    obtain ⟨k, rfl⟩ : ∃ m, k = m + 1 := ⟨k - 1, by omega⟩
    simp only [spec_l22Write.l0]
    rw [if_neg (by omega), List.drop_eq_nil_of_le (by omega)]
    congr 1
    apply ByteArray.ext
    simp [wlines, ByteArray.data_append]
  | succ d ih =>
    intro k i b hd hi hk hb
    obtain ⟨k, rfl⟩ : ∃ m, k = m + 1 := ⟨k - 1, by omega⟩
    have ok := okP_iff.1 (hok _ (mem_g0.2 ⟨i, by omega, rfl⟩))
    have hd0 := dec1 (g t i).f0 (by omega) (by omega) k (by omega)
    have hd1 := dec1 (g t i).f1 (by omega) (by omega) k (by omega)
    have sz : ∀ (x : ByteArray) (y : Array UInt8), (x ++ (⟨y⟩ : ByteArray)).size = x.size + y.size := fun x y => by rw [ByteArray.size_append]; rfl
    have sz1 : ∀ x : UInt8, (⟨#[x]⟩ : ByteArray).size = 1 := fun _ => rfl
    have key : ∀ a : UInt8, a = (if i = 0 then 48 else 49) → spec_l22Write.l0 k t ((((((b ++ (⟨#[71, a]⟩ : ByteArray)) ++ (⟨#[32, 88]⟩ : ByteArray)) ++ (⟨#[UInt8.ofNat (48 + (g t i).f0.toNat)]⟩ : ByteArray)) ++ (⟨#[32, 89]⟩ : ByteArray)) ++ (⟨#[UInt8.ofNat (48 + (g t i).f1.toNat)]⟩ : ByteArray)) ++ (⟨#[10]⟩ : ByteArray)) (wrap64 ((i : Int) + 1)) = some (b ++ ⟨(wlines i (t.drop i)).toArray⟩) := fun a ha => by
      rw [line_app b i (g t i) a ha, w_succ (by omega), ih k (i + 1) _ (by omega) (by omega) (by omega) (by rw [sz]; simp [lineL]; omega)]
      rw [List.drop_eq_getElem_cons (show i < t.length by omega), ← g_eq]
      congr 1
      apply ByteArray.ext
      simp [wlines, ByteArray.data_append, Array.append_assoc]
    simp only [spec_l22Write.l0]
    rw [if_pos (by omega), rd_nat, hd0, hd1]
    simp only [Option.bind_some, sz, sz1, List.size_toArray, List.length_cons, List.length_nil]
    by_cases h0 : i = 0
    · rw [if_pos (by omega), if_pos (by omega), if_pos (by omega), if_pos (by omega), if_pos (by omega), if_pos (by omega), if_pos (by omega), if_pos (by omega)]
      exact key 48 (by rw [if_pos h0])
    · rw [if_neg (by omega), if_pos (by omega), if_pos (by omega), if_pos (by omega), if_pos (by omega), if_pos (by omega), if_pos (by omega), if_pos (by omega)]
      exact key 49 (by rw [if_neg h0])
theorem specl22Write (l : List PT) (hp : IsPath l) (k : Nat) (hk : l.length + 3 ≤ k) : spec_l22Write.f k l = some (cwText l) := by
  unfold spec_l22Write.f cwText
  rw [l22Turns_f l hp k (by omega)]
  simp only [Option.bind_some]
  have := l22Write_l0 (turns l) (Nat.le_trans (turns_le l) hp.2.1) (fun p h => path_ok hp p (turns_mem h)) (turns l).length k 0 ⟨#[]⟩ (by omega) (by omega) (by have := turns_le l; omega) (by decide)
  rw [show ((0 : Nat) : Int) = 0 from rfl] at this
  rw [this, List.drop_zero, codeTurns_path hp]
  congr 1
  try (apply ByteArray.ext; simp [ByteArray.data_append])
theorem specCodeWrite (l : List PT) (hl : l.length < 1000000000000000000) (k : Nat) (hk : l.length + 3 ≤ k) : spec_CodeWrite.f k l = some (cwText l) := by
  obtain ⟨b, hb, hb'⟩ := l22Path_f l hl k (by omega)
  unfold spec_CodeWrite.f
  rw [hb]
  simp only [Option.bind_some]
  by_cases hp : IsPath l
  · rw [if_pos (hb'.2 hp), specl22Write l hp k hk]
    rfl
  · rw [if_neg (fun h => hp (hb'.1 h))]
    unfold cwText codeTurns
    rw [if_neg hp]
    rfl
theorem lineL_inj {i x y x' y' : Nat} (hx : x < 10) (hy : y < 10) (hx' : x' < 10) (hy' : y' < 10) (h : lineL i x y = lineL i x' y') : x = x' ∧ y = y' := by
  simp only [lineL, List.cons.injEq, true_and, and_true] at h
  obtain ⟨h1, h2⟩ := h
  have e : ∀ n : Nat, n < 10 → (UInt8.ofNat (48 + n)).toNat = 48 + n := fun n hn => by simp [UInt8.toNat_ofNat']; omega
  have e1 := congrArg UInt8.toNat h1
  have e2 := congrArg UInt8.toNat h2
  rw [e _ hx, e _ hx'] at e1
  rw [e _ hy, e _ hy'] at e2
  omega
theorem wlines_inj : ∀ (a b : List PT) (i : Nat), (∀ p ∈ a, okP p = true) → (∀ p ∈ b, okP p = true) → wlines i a = wlines i b → a = b
  | [], [], _, _, _, _ => rfl
  | [], q :: b, i, _, _, h => by simp [wlines, lineL] at h
  | p :: a, [], i, _, _, h => by simp [wlines, lineL] at h
  | p :: a, q :: b, i, ha, hb, h => by
    simp only [wlines] at h
    obtain ⟨h1, h2⟩ := List.append_inj h rfl
    have op := okP_iff.1 (ha p (by simp))
    have oq := okP_iff.1 (hb q (by simp))
    obtain ⟨e0, e1⟩ := lineL_inj (by omega) (by omega) (by omega) (by omega) h1
    have := wlines_inj a b (i + 1) (fun r hr => ha r (by simp [hr])) (fun r hr => hb r (by simp [hr])) h2
    rw [this, PT.ext (a := p) (b := q) (by omega) (by omega)]
theorem cwText_inj {a b : List PT} (ha : IsPath a) (hb : IsPath b) (h : cwText a = cwText b) : a = b := by
  unfold cwText at h
  rw [codeTurns_path ha, codeTurns_path hb] at h
  have h' : (wlines 0 (turns a)).toArray = (wlines 0 (turns b)).toArray := congrArg ByteArray.data h
  have := wlines_inj _ _ 0 (fun p hp => path_ok ha p (turns_mem hp)) (fun p hp => path_ok hb p (turns_mem hp)) (List.toArray_inj h')
  have ea := stay_turns a ha
  rw [this, stay_turns b hb] at ea
  exact (Prod.ext_iff.1 ea).1.symm
theorem cwText_path {l : List PT} (h : cwText l ≠ ⟨#[]⟩) : IsPath l := by
  by_cases hp : IsPath l
  · exact hp
  · refine absurd ?_ h
    unfold cwText codeTurns
    rw [if_neg hp]
    rfl
set_option linter.unusedVariables false

/-! ### a text that is cut at a byte -/
def bx (l : List UInt8) : ByteArray := ⟨l.toArray⟩
theorem bx_size (l : List UInt8) : (bx l).size = l.length := rfl
theorem bx_list (l : List UInt8) : (bx l).data.toList = l := rfl
theorem bx_inj {a b : List UInt8} (h : bx a = bx b) : a = b := congrArg (fun x : ByteArray => x.data.toList) h
theorem bx_of (s : ByteArray) : s = bx s.data.toList := rfl
def splitA (c : UInt8) (s : ByteArray) : List ByteArray := Lib.splitB ⟨#[c]⟩ 0 (Lib.countB s ⟨#[c]⟩) s
theorem indexByte_app (c : UInt8) : ∀ (a r : List UInt8), c ∉ a → Lib.indexByte (a ++ c :: r) c = a.length
  | [], r, _ => by simp [Lib.indexByte]
  | b :: a, r, h => by
    have hb : ¬ (b == c) = true := fun e => h (by simp [beq_iff_eq.1 e])
    rw [List.cons_append, Lib.indexByte, if_neg hb, indexByte_app c a r (fun e => h (by simp [e]))]
    have : ¬ (((a.length : Int)) == -1) = true := by simp
    rw [if_neg this]; simp
theorem indexByte_not (c : UInt8) : ∀ (a : List UInt8), c ∉ a → Lib.indexByte a c = -1
  | [], _ => rfl
  | b :: a, h => by
    have hb : ¬ (b == c) = true := fun e => h (by simp [beq_iff_eq.1 e])
    rw [Lib.indexByte, if_neg hb, indexByte_not c a (fun e => h (by simp [e]))]
    rfl
theorem splitA_not (c : UInt8) (a : List UInt8) (h : c ∉ a) : splitA c (bx a) = [bx a] := by
  unfold splitA
  exact Lib.splitB_miss _ _ _ _ (by rw [← index_one]; exact indexByte_not c a h)
theorem extract_bx (l : List UInt8) (i j : Nat) : (bx l).extract i j = bx ((l.drop i).take (j - i)) := by
  apply ByteArray.ext
  apply Array.ext'
  simp [bx, ByteArray.data_extract, Array.toList_extract]
theorem splitA_hit (c : UInt8) (a r : List UInt8) (h : c ∉ a) : splitA c (bx (a ++ c :: r)) = bx a :: splitA c (bx r) := by
  have hi : Lib.indexB (bx (a ++ c :: r)) ⟨#[c]⟩ = a.length := by rw [← index_one]; exact indexByte_app c a r h
  have e : (bx (a ++ c :: r)).extract (a.length + (⟨#[c]⟩ : ByteArray).size) (bx (a ++ c :: r)).size = bx r := by
    rw [extract_bx, bx_size]
    congr 1
    rw [show (⟨#[c]⟩ : ByteArray).size = 1 from rfl]
    simp
    exact List.take_of_length_le (by omega)
  have hc := Lib.countB_hit (bx (a ++ c :: r)) ⟨#[c]⟩ a.length (Nat.le_refl 1) hi
  rw [e] at hc
  unfold splitA
  rw [hc, Nat.add_comm 1, Lib.splitB_hit _ _ _ _ _ hi, e, extract_bx]
  congr 2
  simp
theorem splitB_small (c : UInt8) : ∀ (k : Nat) (s p : ByteArray), p ∈ Lib.splitB ⟨#[c]⟩ 0 k s → p.size ≤ s.size
  | 0, s, p, h => by rw [Lib.splitB_zero] at h; rw [List.mem_singleton.1 h]; exact Nat.le_refl _
  | k + 1, s, p, h => by
    rcases Lib.indexB_cases s ⟨#[c]⟩ with hix | ⟨i, hix, hroom⟩
    · rw [Lib.splitB_miss _ _ _ _ hix] at h; rw [List.mem_singleton.1 h]; exact Nat.le_refl _
    · rw [Lib.splitB_hit _ _ _ _ _ hix] at h
      rcases List.mem_cons.1 h with rfl | h
      · rw [ByteArray.size_extract]; omega
      · have := splitB_small c k _ p h
        rw [ByteArray.size_extract] at this; omega
theorem splitA_small (c : UInt8) (s p : ByteArray) (h : p ∈ splitA c s) : p.size ≤ s.size := splitB_small c _ s p h
theorem splitA_len (c : UInt8) (s : ByteArray) : (splitA c s).length ≤ s.size + 1 := by
  have h1 : 1 ≤ (⟨#[c]⟩ : ByteArray).size := Nat.le_refl 1
  have := Lib.splitB_all ⟨#[c]⟩ h1 0 _ s rfl
  have := Lib.countB_le ⟨#[c]⟩ h1 s.size s (Nat.le_refl _)
  unfold splitA
  omega
theorem splitF (c : UInt8) (s : ByteArray) (h : s.size < 4294967281) : strings_Split.f s ⟨#[c]⟩ = some (splitA c s) := by
  unfold strings_Split.f
  rw [if_pos ⟨rfl, h⟩]
  rfl

/-! ### what both do with the turns -/
noncomputable def rdWith (o : Option (List PT)) (s : ByteArray) : List PT × Bool :=
  match o with
  | none => ([], false)
  | some t => if (stay t).2 = true ∧ cwText (stay t).1 = s then ((stay t).1, true) else ([], false)
theorem stay_path {t : List PT} (h : (stay t).2 = true) : IsPath (stay t).1 := (stay_true (t := t) (l := (stay t).1) (by rw [← h])).1
noncomputable def crd (s : ByteArray) : List PT × Bool := open Classical in if h : ∃ p, IsPath p ∧ cwText p = s then (h.choose, true) else ([], false)
theorem crd_path {p : List PT} (h : IsPath p) : crd (cwText p) = (p, true) := by
  have e : ∃ q, IsPath q ∧ cwText q = cwText p := ⟨p, h, rfl⟩
  unfold crd
  rw [dif_pos e]
  rw [cwText_inj e.choose_spec.1 h e.choose_spec.2]
theorem crd_none {s : ByteArray} (h : ¬ ∃ p, IsPath p ∧ cwText p = s) : crd s = ([], false) := by unfold crd; rw [dif_neg h]
theorem rdWith_eq {o : Option (List PT)} {s : ByteArray} (h : ∀ p, IsPath p → cwText p = s → o = some (turns p)) : rdWith o s = crd s := by
  by_cases e : ∃ p, IsPath p ∧ cwText p = s
  · obtain ⟨p, hp, rfl⟩ := e
    rw [crd_path hp, h p hp rfl]
    unfold rdWith
    simp [stay_turns p hp]
  · rw [crd_none e]
    unfold rdWith
    split
    · rfl
    · rename_i t
      rw [if_neg (fun hh => e ⟨_, stay_path hh.1, hh.2⟩)]
theorem list_beq {a b : ByteArray} : (a.toList = b.toList) ↔ a = b := by
  refine ⟨fun h => ?_, fun h => by rw [h]⟩
  rw [Go.ByteArray.toList_eq, Go.ByteArray.toList_eq] at h
  exact ByteArray.ext (Array.ext' h)

/-! ### a line -/
def tr (x : ByteArray) : Option PT := match impl_turnOf.f 1 x with | some (a, b, true) => some ⟨a, b⟩ | _ => none
theorem figure_f (a : Int) : ∃ x b, impl_figureOf.f a = some (x, b) := by
  unfold impl_figureOf.f
  split
  · exact ⟨_, _, rfl⟩
  · split
    · exact ⟨_, _, rfl⟩
    · exact ⟨_, _, rfl⟩
theorem turnOf_f (x : ByteArray) (h : x.size < 4294967281) (k : Nat) (hk : 1 ≤ k) : ∃ a b c, impl_turnOf.f k x = some (a, b, c) ∧ tr x = if c = true then some ⟨a, b⟩ else none := by
  obtain ⟨k, rfl⟩ : ∃ m, k = m + 1 := ⟨k - 1, by omega⟩
  have e : impl_turnOf.f (k + 1) x = impl_turnOf.f 1 x := rfl
  have ok : ∃ a b c, impl_turnOf.f (k + 1) x = some (a, b, c) := by
    unfold impl_turnOf.f
    rw [splitF 32 x h, Option.bind_some]
    generalize splitA 32 x = y
    by_cases h3 : (y.length : Int) = 3
    · rw [if_pos h3, if_pos (by omega)]
      by_cases h2 : ((rdOf ByteArray.empty y 1).size : Int) = 2
      · rw [if_pos h2, if_pos (by omega), impl_turnOf.j0]
        by_cases h4 : (((rdOf ByteArray.empty y 2).size : Int) != 2) = true
        · rw [if_pos h4]; exact ⟨_, _, _, rfl⟩
        · rw [if_neg h4]
          have h5 : ((rdOf ByteArray.empty y 2).size : Int) = 2 := by simpa using h4
          obtain ⟨x1, b1, e1⟩ := figure_f (bt (rdOf ByteArray.empty y 1) 1)
          obtain ⟨x2, b2, e2⟩ := figure_f (bt (rdOf ByteArray.empty y 2) 1)
          rw [if_pos (by omega), if_pos (by omega), e1, Option.bind_some, if_pos (by omega), if_pos (by omega), e2, Option.bind_some]
          cases b1
          · exact ⟨_, _, _, if_neg (fun e => Bool.noConfusion e)⟩
          · exact ⟨_, _, _, if_pos rfl⟩
      · rw [if_neg h2, impl_turnOf.j0, if_pos rfl]; exact ⟨_, _, _, rfl⟩
    · rw [if_neg h3, impl_turnOf.j0, if_pos rfl]; exact ⟨_, _, _, rfl⟩
  obtain ⟨a, b, c, h1⟩ := ok
  refine ⟨a, b, c, h1, ?_⟩
  unfold tr
  rw [← e, h1]
  cases c <;> rfl
theorem rdOf_nat (l : List ByteArray) (i : Nat) : rdOf ByteArray.empty l (i : Int) = l.getD i ByteArray.empty := by simp [rdOf]
theorem drop_d {l : List ByteArray} {i : Nat} (h : i < l.length) : l.drop i = l.getD i ByteArray.empty :: l.drop (i + 1) := by
  rw [List.drop_eq_getElem_cons h]; simp [List.getD_eq_getElem?_getD, h]
theorem mapM_nil {f : ByteArray → Option PT} : ([] : List ByteArray).mapM f = some [] := rfl
theorem mapM_cons {f : ByteArray → Option PT} (x : ByteArray) (l : List ByteArray) : (x :: l).mapM f = match f x with | none => none | some p => match l.mapM f with | none => none | some t => some (p :: t) := by
  rw [List.mapM_cons]
  cases f x with
  | none => rfl
  | some p => cases l.mapM f <;> rfl
def pre (acc : List PT) (o : Option (List PT)) : Option (List PT) := match o with | none => none | some t => some (acc ++ t)
theorem codeRead_l0 (s : ByteArray) (ls : List ByteArray) (hn : ls.length ≤ 5000) (hs : ∀ p ∈ ls, p.size < 4294967281) : ∀ (d k i : Nat) (acc : List PT), ls.length - i = d → i ≤ ls.length → d + 30000 ≤ k → acc.length ≤ i →
    impl_CodeRead.l0 k s acc ls (ls.length : Int) (i : Int) = some (rdWith (pre acc ((ls.drop i).mapM tr)) s) := by
  intro d
  induction d with
  | zero =>
    intro k i acc hd hi hk ha
    obtain ⟨k, rfl⟩ : ∃ m, k = m + 1 := ⟨k - 1, by omega⟩
    simp only [impl_CodeRead.l0]
    rw [if_neg (by omega), List.drop_eq_nil_of_le (by omega), mapM_nil, implCodeStay acc (by omega) k (by omega)]
    simp only [Option.bind_some, pre, List.append_nil, rdWith]
    by_cases h2 : (stay acc).2 = true
    · have hp := stay_path h2
      rw [if_pos h2, implCodeWrite _ (by have := hp.2.1; omega) k (by have := hp.2.1; omega)]
      simp only [Option.bind_some]
      by_cases h3 : cwText (stay acc).1 = s
      · rw [if_pos (list_beq.2 h3), if_pos ⟨h2, h3⟩]
      · rw [if_neg (fun e => h3 (list_beq.1 e)), if_neg (fun e => h3 e.2)]
    · rw [if_neg h2, if_neg (fun e => h2 e.1)]
  | succ d ih =>
    intro k i acc hd hi hk ha
    obtain ⟨k, rfl⟩ : ∃ m, k = m + 1 := ⟨k - 1, by omega⟩
    have hx : (ls.getD i ByteArray.empty).size < 4294967281 := by
      rw [show ls.getD i ByteArray.empty = ls[i]'(by omega) by simp [List.getD_eq_getElem?_getD, show i < ls.length by omega]]
      exact hs _ (List.getElem_mem _)
    obtain ⟨a, b, c, e1, e2⟩ := turnOf_f _ hx k (by omega)
    simp only [impl_CodeRead.l0]
    rw [if_pos (by omega), if_pos (by omega), if_pos (by omega), rdOf_nat, e1]
    simp only [Option.bind_some]
    rw [drop_d (by omega), mapM_cons, e2]
    cases c with
    | false => rfl
    | true =>
      rw [if_pos rfl, if_pos rfl, if_pos (by omega), w_succ (by omega), ih k (i + 1) _ (by omega) (by omega) (by omega) (by rw [List.length_append]; simp; omega)]
      cases h : (ls.drop (i + 1)).mapM tr with
      | none => rfl
      | some t => simp [pre]
/-! ### the text of a path, line by line -/
def bodyL (i : Nat) (p : PT) : List UInt8 := [71, if i = 0 then 48 else 49, 32, 88, UInt8.ofNat (48 + p.f0.toNat), 32, 89, UInt8.ofNat (48 + p.f1.toNat)]
def bodies : Nat → List PT → List ByteArray
  | _, [] => []
  | i, p :: l => bx (bodyL i p) :: bodies (i + 1) l
theorem lineL_body (i : Nat) (p : PT) : lineL i p.f0.toNat p.f1.toNat = bodyL i p ++ [10] := rfl
theorem dig {n : Int} (h0 : 0 ≤ n) (h9 : n ≤ 9) : ((UInt8.ofNat (48 + n.toNat)).toNat : Int) = 48 + n := by simp [UInt8.toNat_ofNat']; omega
theorem dig_ne {n : Int} (h0 : 0 ≤ n) (h9 : n ≤ 9) (c : UInt8) (hc : c.toNat < 48) : UInt8.ofNat (48 + n.toNat) ≠ c := fun e => by
  have := congrArg UInt8.toNat e
  have := dig h0 h9
  omega
theorem body_no (i : Nat) {p : PT} (h : okP p = true) : (10 : UInt8) ∉ bodyL i p := by
  have ok := okP_iff.1 h
  have h0 := dig_ne ok.1 ok.2.1 10 (by decide)
  have h1 := dig_ne ok.2.2.1 ok.2.2.2 10 (by decide)
  unfold bodyL
  intro hm
  simp only [List.mem_cons, List.not_mem_nil, or_false] at hm
  rcases hm with h | h | h | h | h | h | h | h
  · exact absurd h (by decide)
  · split at h <;> exact absurd h (by decide)
  · exact absurd h (by decide)
  · exact absurd h (by decide)
  · exact h0 h.symm
  · exact absurd h (by decide)
  · exact absurd h (by decide)
  · exact h1 h.symm
theorem fig (n : Int) (h0 : 0 ≤ n) (h9 : n ≤ 9) : impl_figureOf.f (48 + n) = some (n, true) := by
  unfold impl_figureOf.f
  rw [if_neg (by omega), if_neg (by omega)]
  congr 2; omega
theorem no2 {c a x : UInt8} (h0 : a ≠ c) (h : x ≠ c) : c ∉ [a, x] := by simp [h0.symm, h.symm]
theorem tr_body (i : Nat) {p : PT} (h : okP p = true) : tr (bx (bodyL i p)) = some p := by
  have ok := okP_iff.1 h
  have h0 := dig_ne ok.1 ok.2.1 32 (by decide)
  have h1 := dig_ne ok.2.2.1 ok.2.2.2 32 (by decide)
  have hs : splitA 32 (bx (bodyL i p)) = [bx [71, if i = 0 then 48 else 49], bx [88, UInt8.ofNat (48 + p.f0.toNat)], bx [89, UInt8.ofNat (48 + p.f1.toNat)]] := by
    have e : bodyL i p = [71, if i = 0 then 48 else 49] ++ 32 :: ([88, UInt8.ofNat (48 + p.f0.toNat)] ++ 32 :: [89, UInt8.ofNat (48 + p.f1.toNat)]) := rfl
    rw [e, splitA_hit _ _ _ (by split <;> decide), splitA_hit _ _ _ (no2 (by decide) h0), splitA_not _ _ (no2 (by decide) h1)]
  have b1 : bt (bx [88, UInt8.ofNat (48 + p.f0.toNat)]) 1 = 48 + p.f0 := by rw [← dig ok.1 ok.2.1]; rfl
  have b2 : bt (bx [89, UInt8.ofNat (48 + p.f1.toNat)]) 1 = 48 + p.f1 := by rw [← dig ok.2.2.1 ok.2.2.2]; rfl
  unfold tr impl_turnOf.f
  rw [splitF 32 _ (by rw [bx_size]; simp [bodyL])]
  simp only [Option.bind_some, hs]
  generalize UInt8.ofNat (48 + p.f0.toNat) = u at b1 ⊢
  generalize UInt8.ofNat (48 + p.f1.toNat) = v at b2 ⊢
  simp only [impl_turnOf.j0, List.length_cons, List.length_nil, rdOf, List.getD_eq_getElem?_getD]
  simp [bx_size, b1, b2, fig _ ok.1 ok.2.1, fig _ ok.2.2.1 ok.2.2.2]
theorem tr_bodies : ∀ (t : List PT) (i : Nat), (∀ p ∈ t, okP p = true) → (bodies i t).mapM tr = some t
  | [], _, _ => rfl
  | p :: t, i, h => by
    rw [bodies, mapM_cons, tr_body i (h p (by simp)), tr_bodies t (i + 1) (fun q hq => h q (by simp [hq]))]
theorem splitA_lines : ∀ (t : List PT) (p : PT) (i : Nat), (∀ q ∈ p :: t, okP q = true) → ∃ r, wlines i (p :: t) = r ++ [10] ∧ splitA 10 (bx r) = bodies i (p :: t)
  | [], p, i, h => ⟨bodyL i p, by simp [wlines, lineL_body], by rw [splitA_not _ _ (body_no i (h p (by simp)))]; rfl⟩
  | q :: t, p, i, h => by
    obtain ⟨r, e1, e2⟩ := splitA_lines t q (i + 1) (fun x hx => h x (by simp at hx ⊢; exact .inr hx))
    refine ⟨bodyL i p ++ 10 :: r, ?_, ?_⟩
    · rw [wlines, e1, lineL_body]; simp
    · rw [splitA_hit _ _ _ (body_no i (h p (by simp))), e2]; rfl
theorem wlines_len : ∀ (t : List PT) (i : Nat), (wlines i t).length = 9 * t.length
  | [], _ => rfl
  | p :: t, i => by rw [wlines, List.length_append, wlines_len t (i + 1)]; simp [lineL]; omega
theorem cwText_path' {p : List PT} (h : IsPath p) : cwText p = bx (wlines 0 (turns p)) := by unfold cwText; rw [codeTurns_path h]; rfl
theorem cwText_size {p : List PT} (h : IsPath p) : (cwText p).size = 9 * (turns p).length := by rw [cwText_path' h, bx_size, wlines_len]
theorem turns_ne {p : List PT} (h : IsPath p) : ∃ t, turns p = g p 0 :: t := by
  unfold turns
  rw [turnsFrom_step p 0 h.1, if_pos (by simp [turnAt])]
  exact ⟨_, rfl⟩
/-! ### the program's CodeRead -/
theorem hasSuffix_f (s : ByteArray) (hs : s.size ≤ 1000000) : ∃ b, strings_HasSuffix.f s ⟨#[10]⟩ = some b ∧ (b = true ↔ ∃ r, s = bx (r ++ [10])) := by
  unfold strings_HasSuffix.f stringslite_HasSuffix.f
  rw [show (⟨#[10]⟩ : ByteArray).size = 1 from rfl]
  by_cases h0 : s.size = 0
  · rw [if_neg (by omega)]
    simp only [Option.bind_some]
    refine ⟨_, rfl, fun h => absurd h (by decide), ?_⟩
    rintro ⟨r, rfl⟩
    rw [bx_size] at h0; simp at h0
  · rw [if_pos (by omega), w_id (by omega) (by omega), if_pos (by omega), if_pos (by omega)]
    simp only [Option.bind_some]
    refine ⟨_, rfl, ?_⟩
    rw [show (((s.size : Int) - ((1 : Nat) : Int)).toNat) = s.size - 1 by omega]
    rw [beq_iff_eq, list_beq]
    have hl : s.data.toList.length = s.size := by rw [Array.length_toList]; rfl
    constructor
    · intro e
      have e' : (s.data.toList.drop (s.size - 1)).take (s.size - (s.size - 1)) = [10] := by
        have := congrArg (fun x : ByteArray => x.data.toList) e
        simp only at this
        rw [bx_of s, extract_bx, bx_list, bx_size, hl] at this
        exact this
      refine ⟨s.data.toList.take (s.size - 1), ?_⟩
      rw [List.take_of_length_le (by rw [List.length_drop]; omega)] at e'
      rw [← e', List.take_append_drop]
      exact bx_of s
    · rintro ⟨r, rfl⟩
      rw [extract_bx, bx_size]
      simp
      rfl
theorem trimSuffix_f (r : List UInt8) (hs : r.length ≤ 999999) : strings_TrimSuffix.f (bx (r ++ [10])) ⟨#[10]⟩ = some (bx r) := by
  obtain ⟨b0, hh, hb⟩ := hasSuffix_f (bx (r ++ [10])) (by rw [bx_size, List.length_append]; simp; omega)
  rw [hb.2 ⟨r, rfl⟩] at hh
  unfold strings_HasSuffix.f at hh
  unfold strings_TrimSuffix.f stringslite_TrimSuffix.f
  cases h1 : stringslite_HasSuffix.f (bx (r ++ [10])) ⟨#[10]⟩ with
  | none => rw [h1] at hh; cases hh
  | some b =>
    rw [h1] at hh
    simp only [Option.bind_some] at hh ⊢
    rw [Option.some.inj hh, if_pos rfl, show (⟨#[10]⟩ : ByteArray).size = 1 from rfl, bx_size, List.length_append, List.length_singleton]
    rw [w_id (by omega) (by omega), if_pos (by omega), if_pos (by omega)]
    simp only [Option.bind_some]
    congr 1
    rw [extract_bx, show ((((r.length + 1 : Nat) : Int) - ((1 : Nat) : Int)).toNat) = r.length by omega]
    simp
theorem implCodeRead (s : ByteArray) (k : Nat) (hk : 40000 ≤ k) : impl_CodeRead.f k s = some (crd s) := by
  unfold impl_CodeRead.f
  by_cases h0 : (s.size : Int) > 4000
  · rw [if_pos h0]
    obtain ⟨k, rfl⟩ : ∃ m, k = m + 1 := ⟨k - 1, by omega⟩
    simp only [impl_CodeRead.j0]
    rw [if_pos trivial, crd_none]
    rintro ⟨p, hp, rfl⟩
    rw [cwText_size hp] at h0
    have := turns_le p
    have := hp.2.1
    omega
  · obtain ⟨b, hb, hb'⟩ := hasSuffix_f s (by omega)
    rw [if_neg h0, hb]
    simp only [Option.bind_some]
    obtain ⟨k, rfl⟩ : ∃ m, k = m + 1 := ⟨k - 1, by omega⟩
    simp only [impl_CodeRead.j0]
    by_cases h1 : ∃ r, s = bx (r ++ [10])
    · obtain ⟨r, rfl⟩ := h1
      rw [bx_size, List.length_append, List.length_singleton] at h0
      rw [hb'.2 ⟨r, rfl⟩, if_neg (by simp), trimSuffix_f r (by omega)]
      simp only [Option.bind_some]
      rw [splitF 10 (bx r) (by rw [bx_size]; omega)]
      simp only [Option.bind_some]
      have hlen := splitA_len 10 (bx r)
      rw [bx_size] at hlen
      have := codeRead_l0 (bx (r ++ [10])) (splitA 10 (bx r)) (by omega) (fun p hp => by have := splitA_small 10 _ p hp; rw [bx_size] at this; omega) (splitA 10 (bx r)).length k 0 [] (by omega) (by omega) (by omega) (by simp)
      rw [show ((0 : Nat) : Int) = 0 from rfl, List.drop_zero] at this
      rw [this]
      congr 1
      have e0 : ∀ o, pre [] o = o := fun o => by cases o <;> rfl
      rw [e0]
      refine rdWith_eq fun p hp he => ?_
      obtain ⟨t, ht⟩ := turns_ne hp
      have hok : ∀ q ∈ turns p, okP q = true := fun q hq => path_ok hp q (turns_mem hq)
      rw [ht] at hok
      obtain ⟨r', e1, e2⟩ := splitA_lines t (g p 0) 0 hok
      rw [cwText_path' hp, ht, e1] at he
      have := bx_inj he
      have : r' = r := List.append_inj_left' this rfl
      subst this
      rw [e2, tr_bodies _ _ hok, ht]
    · rw [show b = false from Bool.eq_false_iff.2 fun e => h1 (hb'.1 e), if_pos (by rfl), crd_none]
      rintro ⟨p, hp, rfl⟩
      obtain ⟨t, ht⟩ := turns_ne hp
      have hok : ∀ q ∈ turns p, okP q = true := fun q hq => path_ok hp q (turns_mem hq)
      rw [ht] at hok
      obtain ⟨r', e1, e2⟩ := splitA_lines t (g p 0) 0 hok
      exact h1 ⟨r', by rw [cwText_path' hp, ht, e1]⟩
/-! ### the reference's CodeRead -/
end Go.Proofs.YtdacpdhpifocbaaDoor.Q

namespace Go.Proofs.YtdacpdhpifocbaaDoor.Q
open Go.RowKit Go.Proofs.YtdacpdhpifocbaaDoor.P Go.Proofs.YtdacpdhpifocbaaDoorW.PrintWords Go.Proofs.YtdacpdhpifocbaaDoorW.PrintLast
set_option linter.unusedVariables false

theorem ext_g' {a b : List PT} (h : a.length = b.length) (h' : ∀ j, j < a.length → g a j = g b j) : a = b := by
  apply List.ext_getElem h
  intro i h1 h2
  have := h' i h1
  rwa [g_eq h1, g_eq h2] at this
theorem luSame_l0 (a b : List PT) (hl : a.length < 1000000000000000000) (hab : a.length = b.length) : ∀ (d k i : Nat), a.length - i = d → i ≤ a.length → d < k →
    ∃ r, laws_luSame.l0 k a b (i : Int) = some r ∧ (r = true ↔ ∀ j, i ≤ j → j < a.length → g a j = g b j) := by
  intro d
  induction d with
  | zero =>
    intro k i hd hi hk
    obtain ⟨k, rfl⟩ : ∃ m, k = m + 1 := ⟨k - 1, by omega⟩
    refine ⟨true, ?_, by simp only [true_iff]; intro j h1 h2; omega⟩
    simp only [laws_luSame.l0]
    rw [if_neg (by omega)]
  | succ d ih =>
    intro k i hd hi hk
    obtain ⟨k, rfl⟩ : ∃ m, k = m + 1 := ⟨k - 1, by omega⟩
    simp only [laws_luSame.l0]
    rw [if_pos (by omega), if_pos (by omega), if_pos (by omega), rd_nat, rd_nat]
    by_cases h : g a i = g b i
    · rw [if_neg (by rw [ne_bool]; simpa using h), w_succ (by omega)]
      obtain ⟨r, hr, hr'⟩ := ih k (i + 1) (by omega) (by omega) (by omega)
      refine ⟨r, hr, hr'.trans ⟨fun q j h1 h2 => ?_, fun q j h1 h2 => q j (by omega) h2⟩⟩
      rcases Nat.eq_or_lt_of_le h1 with e | e
      · subst e; exact h
      · exact q j e h2
    · rw [if_pos (by rw [ne_bool]; exact h)]
      exact ⟨false, rfl, by simp only [Bool.false_eq_true, false_iff]; exact fun q => h (q i (Nat.le_refl _) (by omega))⟩
theorem luSame_f (a b : List PT) (hl : a.length < 1000000000000000000) (k : Nat) (hk : a.length < k) : laws_luSame.f k a b = some (decide (a = b)) := by
  unfold laws_luSame.f
  by_cases h : a.length = b.length
  · rw [if_pos (by omega)]
    obtain ⟨r, hr, hr'⟩ := luSame_l0 a b hl h a.length k 0 (by omega) (by omega) (by omega)
    rw [show ((0 : Nat) : Int) = 0 from rfl] at hr
    rw [hr]
    congr 1
    rw [Bool.eq_iff_iff, hr', decide_eq_true_eq]
    exact ⟨fun q => ext_g' h (fun j hj => q j (by omega) hj), fun q j _ _ => by rw [q]⟩
  · rw [if_neg (by omega), decide_eq_false (fun e => h (by rw [e]))]
theorem luSame_self (a : List PT) (hl : a.length < 1000000000000000000) (k : Nat) (hk : a.length < k) : laws_luSame.f k a a = some true := by rw [luSame_f a a hl k hk]; simp
set_option linter.unusedVariables false

def Bytes (s : List Int) : Prop := s.length ≤ 2000 ∧ ∀ b ∈ s, 0 ≤ b ∧ b ≤ 255
theorem rd_byte {s : List Int} (hs : Bytes s) (i : Int) : 0 ≤ rd s i ∧ rd s i ≤ 255 := by
  unfold rd
  rw [List.getD_eq_getElem?_getD]
  cases h : s[i.toNat]? with
  | none => simp
  | some b =>
    obtain ⟨hi, rfl⟩ := List.getElem?_eq_some_iff.1 h
    exact hs.2 _ (List.getElem_mem hi)
theorem xor_nat (a b : Nat) (ha : a < 4611686018427387904) (hb : b < 4611686018427387904) : Go.bits .xor .i64 (a : Int) (b : Int) = ((a ^^^ b : Nat) : Int) := by
  have hx : a ^^^ b < 2 ^ 62 := Nat.xor_lt_two_pow (by simpa using ha) (by simpa using hb)
  simp only [Go.bits, BitVec.ofInt_natCast, BitVec.toNat_xor, BitVec.toNat_ofNat]
  rw [show IntKind.bits .i64 = 64 from rfl, Nat.mod_eq_of_lt (show a < 2 ^ 64 by omega), Nat.mod_eq_of_lt (show b < 2 ^ 64 by omega), IntKind.wrap_i64]
  have : (a ^^^ b) < 4611686018427387904 := by simpa using hx
  omega
theorem xor_pos {a b : Int} (ha : 0 ≤ a ∧ a < 4611686018427387904) (hb : 0 ≤ b ∧ b < 4611686018427387904) : 0 ≤ Go.bits .xor .i64 a b := by
  obtain ⟨x, rfl⟩ := Int.eq_ofNat_of_zero_le ha.1
  obtain ⟨y, rfl⟩ := Int.eq_ofNat_of_zero_le hb.1
  rw [xor_nat x y (by omega) (by omega)]
  omega
theorem tmod_pos {a b : Int} (ha : 0 ≤ a) (hb : 0 < b) : 0 ≤ Int.tmod a b ∧ Int.tmod a b < b := ⟨Int.tmod_nonneg _ ha, Int.tmod_lt_of_pos _ hb⟩
theorem pick_f {s : List Int} (hs : Bytes s) (p n : Int) (hp : 0 ≤ p ∧ p ≤ 1000000) (hn : 1 ≤ n) (k : Nat) (hk : 1 ≤ k) :
    ∃ v, spec_l6Rd_pick.f k s p n = some (v, p + 1) ∧ 0 ≤ v ∧ v < n := by
  obtain ⟨k, rfl⟩ : ∃ m, k = m + 1 := ⟨k - 1, by omega⟩
  have hl := hs.1
  unfold spec_l6Rd_pick.f
  rw [if_neg (by omega), w_id (x := p + 1) (by omega) (by omega)]
  simp only [spec_l6Rd_pick.j0]
  by_cases h0 : s.length = 0
  · rw [if_pos (by simp [h0])]
    exact ⟨0, rfl, by omega, by omega⟩
  · rw [if_neg (by simp [h0]), w_id (x := p + 1 - 1) (by omega) (by omega), show p + 1 - 1 = p by omega]
    by_cases h1 : p < (s.length : Int)
    · rw [if_pos h1, if_pos hp.1, if_neg (by omega)]
      have hb := rd_byte hs p
      rw [w_id (x := rd s p) (by omega) (by omega)]
      obtain ⟨a, b⟩ := tmod_pos hb.1 (show 0 < n by omega)
      exact ⟨_, rfl, a, b⟩
    · rw [if_neg h1, if_neg (by omega)]
      obtain ⟨a1, a2⟩ := tmod_pos hp.1 (show (0 : Int) < s.length by omega)
      rw [if_pos a1, if_pos a2]
      rw [w_id (x := p * 7) (by omega) (by omega), w_id (x := p * 7 + 3) (by omega) (by omega)]
      obtain ⟨b1, b2⟩ := tmod_pos (show 0 ≤ p * 7 + 3 by omega) (show (0 : Int) < s.length by omega)
      rw [if_pos b1, if_pos b2, if_neg (by omega)]
      have hb := rd_byte hs (Int.tmod p (s.length : Int))
      have hc := rd_byte hs (Int.tmod (p * 7 + 3) (s.length : Int))
      generalize rd s (Int.tmod p (s.length : Int)) = x at *
      generalize rd s (Int.tmod (p * 7 + 3) (s.length : Int)) = y at *
      have hd : 0 ≤ Int.tdiv p (s.length : Int) ∧ Int.tdiv p (s.length : Int) ≤ 1000000 := by
        refine ⟨Int.tdiv_nonneg hp.1 (by omega), ?_⟩
        rw [Int.tdiv_eq_ediv_of_nonneg hp.1]
        exact Int.le_trans (Int.ediv_le_self _ hp.1) hp.2
      generalize Int.tdiv p (s.length : Int) = z at *
      rw [w_id (x := x) (by omega) (by omega), w_id (x := y) (by omega) (by omega), w_id (x := z) (by omega) (by omega), w_id (x := x * 131) (by omega) (by omega), w_id (x := y * 1117) (by omega) (by omega), w_id (x := x * 131 + y * 1117) (by omega) (by omega),
        w_id (x := p * 29) (by omega) (by omega), w_id (x := x * 131 + y * 1117 + p * 29) (by omega) (by omega), w_id (x := z * 53) (by omega) (by omega), w_id (x := x * 131 + y * 1117 + p * 29 + z * 53) (by omega) (by omega)]
      have ht : 0 ≤ x * 131 + y * 1117 + p * 29 + z * 53 ∧ x * 131 + y * 1117 + p * 29 + z * 53 < 1000000000 := by omega
      generalize x * 131 + y * 1117 + p * 29 + z * 53 = t at *
      have hu : 0 ≤ Int.tdiv t 64 ∧ Int.tdiv t 64 < 1000000000 := by
        rw [Int.tdiv_eq_ediv_of_nonneg ht.1]
        omega
      rw [w_id (x := Int.tdiv t 64) (by omega) (by omega)]
      obtain ⟨c1, c2⟩ := tmod_pos (xor_pos (a := t) (b := Int.tdiv t 64) (by omega) (by omega)) (show 0 < n by omega)
      exact ⟨_, rfl, c1, c2⟩
theorem open_f (l : List Int) (hb : ∀ x ∈ l, (Lit.int .u8 x).wf = true) : ∃ s, spec_l6Open.f l = some (s, 0) ∧ Bytes s := by
  have hb' : ∀ x ∈ l, 0 ≤ x ∧ x ≤ 255 := fun x hx => by
    have := hb x hx
    simp [Lit.wf, IntKind.min, IntKind.max, IntKind.bits, IntKind.signed] at this
    omega
  unfold spec_l6Open.f
  by_cases h : (l.length : Int) > 2000
  · rw [if_pos h, if_pos (by omega)]
    exact ⟨_, rfl, by simp; omega, fun b hb => hb' b (List.mem_of_mem_take hb)⟩
  · rw [if_neg h]
    exact ⟨_, rfl, by omega, hb'⟩
theorem l71Pt_f {s : List Int} (hs : Bytes s) (p : Int) (hp : 0 ≤ p ∧ p ≤ 999990) (k : Nat) (hk : 1 ≤ k) :
    ∃ x y q, spec_l71Pt.f k s p = some (x, y, q) ∧ p ≤ q ∧ q ≤ p + 4 ∧ -1 ≤ x ∧ x ≤ 10 ∧ -1 ≤ y ∧ y ≤ 10 := by
  unfold spec_l71Pt.f
  obtain ⟨a, ha, a0, a1⟩ := pick_f hs p 10 (by omega) (by omega) k hk
  rw [ha]
  simp only [Option.bind_some]
  obtain ⟨b, hb, b0, b1⟩ := pick_f hs (p + 1) 10 (by omega) (by omega) k hk
  rw [hb]
  simp only [Option.bind_some]
  obtain ⟨c, hc, c0, c1⟩ := pick_f hs (p + 1 + 1) 40 (by omega) (by omega) k hk
  rw [hc]
  simp only [Option.bind_some]
  obtain ⟨d, hd, d0, d1⟩ := pick_f hs (p + 1 + 1 + 1) 2 (by omega) (by omega) k hk
  have hr : -1 ≤ rd [-1, 10] d ∧ rd [-1, 10] d ≤ 10 := by
    have : d = 0 ∨ d = 1 := by omega
    rcases this with rfl | rfl <;> simp [rd]
  by_cases e0 : c = 0
  · rw [if_pos e0, hd]
    simp only [Option.bind_some]
    rw [if_pos d0, if_pos (by simpa using d1)]
    exact ⟨_, _, _, rfl, by omega, by omega, hr.1, hr.2, by omega, by omega⟩
  · rw [if_neg e0]
    by_cases e1 : c = 1
    · rw [if_pos e1, hd]
      simp only [Option.bind_some]
      rw [if_pos d0, if_pos (by simpa using d1)]
      exact ⟨_, _, _, rfl, by omega, by omega, by omega, by omega, hr.1, hr.2⟩
    · rw [if_neg e1]
      exact ⟨_, _, _, rfl, by omega, by omega, by omega, by omega, by omega, by omega⟩
set_option linter.unusedVariables false
def Small (p : PT) : Prop := -1 ≤ p.f0 ∧ p.f0 ≤ 10 ∧ -1 ≤ p.f1 ∧ p.f1 ≤ 10
theorem small_snoc {l : List PT} {p : PT} (h : ∀ q ∈ l, Small q) (hp : Small p) : ∀ q ∈ l ++ [p], Small q := fun q hq => by
  rcases List.mem_append.1 hq with h' | h'
  · exact h q h'
  · rw [List.mem_singleton.1 h']; exact hp
set_option linter.unusedVariables false
set_option maxHeartbeats 2000000
theorem small_ok {p : PT} (h : okP p = true) : Small p := by
  rw [okP_iff] at h
  unfold Small
  omega
theorem drawPath_l0 {s : List Int} (hs : Bytes s) : ∀ (d k : Nat) (acc : List PT) (p a b t : Int), 0 ≤ p → p + 10 * (d : Int) ≤ 900000 → acc.length + d ≤ 1000 → 3 * d + 5 ≤ k → d ≤ 1000 → (∀ q ∈ acc, Small q) → 0 ≤ a ∧ a < 10 → 0 ≤ b ∧ b < 10 → 0 ≤ t ∧ t < 4 →
    ∃ r q, spec_l72Path.l0 k acc t (d : Int) s p a b = some (r, q) ∧ p ≤ q ∧ q ≤ p + 10 * (d : Int) + 10 ∧ r.length ≤ acc.length + d + 1 ∧ ∀ q ∈ r, Small q := by
  intro d
  induction d with
  | zero =>
    intro k acc p a b t hp hp' h2 hk hd hsm ha hb ht
    obtain ⟨k, rfl⟩ : ∃ m, k = m + 1 + 1 + 1 := ⟨k - 3, by omega⟩
    simp only [spec_l72Path.l0]
    rw [if_neg (by omega)]
    obtain ⟨v, hv, v0, v1⟩ := pick_f hs p 16 (by omega) (by omega) (k + 1 + 1) (by omega)
    rw [hv]
    simp only [Option.bind_some]
    by_cases e : v = 0
    · rw [if_pos e]
      obtain ⟨x, y, q, hq, q0, q1, z0, z1, z2, z3⟩ := l71Pt_f hs (p + 1) (by omega) (k + 1 + 1) (by omega)
      rw [hq]
      simp only [Option.bind_some]
      rw [if_pos (by omega)]
      simp only [spec_l72Path.j4]
      exact ⟨_, _, rfl, by omega, by omega, by simp, small_snoc hsm ⟨z0, z1, z2, z3⟩⟩
    · rw [if_neg e]
      by_cases e1 : v = 1
      · rw [if_pos e1, if_pos (by omega)]
        simp only [spec_l72Path.j3, spec_l72Path.j4]
        exact ⟨_, _, rfl, by omega, by omega, by simp, fun q hq => by simp at hq⟩
      · rw [if_neg e1]
        simp only [spec_l72Path.j3, spec_l72Path.j4]
        exact ⟨_, _, rfl, by omega, by omega, by omega, hsm⟩
  | succ d ih =>
    intro k acc p a b t hp hp' h2 hk hd hsm ha hb ht
    obtain ⟨k, rfl⟩ : ∃ m, k = m + 1 + 1 + 1 := ⟨k - 3, by omega⟩
    simp only [spec_l72Path.l0]
    rw [if_pos (by omega)]
    obtain ⟨v, hv, v0, v1⟩ := pick_f hs p 3 (by omega) (by omega) (k + 1 + 1) (by omega)
    rw [hv]
    simp only [Option.bind_some]
    have hw : wrap64 (((d + 1 : Nat) : Int) - 1) = (d : Int) := by rw [w_id (by omega) (by omega)]; omega
    have key : ∀ (q u : Int), p ≤ q → q ≤ p + 2 → 0 ≤ u ∧ u < 4 → ∃ r q', spec_l72Path.j1 (k + 1 + 1) acc u ((d + 1 : Nat) : Int) s q a b = some (r, q') ∧ p ≤ q' ∧ q' ≤ p + 10 * ((d + 1 : Nat) : Int) + 10 ∧ r.length ≤ acc.length + (d + 1) + 1 ∧ ∀ q ∈ r, Small q := fun q u hq0 hq1 hu => by
      have hx : -1 ≤ rd [1, 0, -1, 0] u ∧ rd [1, 0, -1, 0] u ≤ 1 := by
        have : u = 0 ∨ u = 1 ∨ u = 2 ∨ u = 3 := by omega
        rcases this with rfl | rfl | rfl | rfl <;> simp [rd]
      have hy : -1 ≤ rd [0, 1, 0, -1] u ∧ rd [0, 1, 0, -1] u ≤ 1 := by
        have : u = 0 ∨ u = 1 ∨ u = 2 ∨ u = 3 := by omega
        rcases this with rfl | rfl | rfl | rfl <;> simp [rd]
      simp only [spec_l72Path.j1, Option.bind_some]
      rw [if_pos hu.1, if_pos (by simpa using hu.2), if_pos (by simpa using hu.2)]
      generalize rd [1, 0, -1, 0] u = x at *
      generalize rd [0, 1, 0, -1] u = y at *
      rw [w_id (x := a + x) (by omega) (by omega), w_id (x := b + y) (by omega) (by omega), specOk]
      simp only [Option.bind_some]
      by_cases hok : okP ⟨a + x, b + y⟩ = true
      · have hok' := okP_iff.1 hok
        simp only at hok'
        rw [if_pos hok, if_pos (by omega)]
        simp only [spec_l72Path.j2]
        rw [hw]
        obtain ⟨r, q', hr, r0, r1, r2, r3⟩ := ih k (acc ++ [⟨a + x, b + y⟩]) q (a + x) (b + y) u (by omega) (by omega) (by simp; omega) (by omega) (by omega) (small_snoc hsm (small_ok hok)) (by omega) (by omega) hu
        exact ⟨r, q', hr, by omega, by omega, by simp at r2; omega, r3⟩
      · rw [if_neg hok]
        simp only [spec_l72Path.j2]
        rw [hw]
        obtain ⟨r, q', hr, r0, r1, r2, r3⟩ := ih k acc q a b u (by omega) (by omega) (by omega) (by omega) (by omega) hsm ha hb hu
        exact ⟨r, q', hr, by omega, by omega, by omega, r3⟩
    by_cases e : v = 0
    · rw [if_pos e]
      obtain ⟨u, hu, u0, u1⟩ := pick_f hs (p + 1) 4 (by omega) (by omega) (k + 1 + 1) (by omega)
      rw [hu]
      simp only [Option.bind_some]
      exact key _ _ (by omega) (by omega) ⟨u0, u1⟩
    · rw [if_neg e]
      exact key _ _ (by omega) (by omega) ht
theorem drawPath_f {s : List Int} (hs : Bytes s) (p : Int) (hp : 0 ≤ p ∧ p ≤ 1000) (k : Nat) (hk : 100 ≤ k) : ∃ r q, spec_l72Path.f k s p = some (r, q) ∧ p ≤ q ∧ q ≤ p + 200 ∧ r.length ≤ 17 ∧ ∀ q ∈ r, Small q := by
  unfold spec_l72Path.f
  obtain ⟨a, ha, a0, a1⟩ := pick_f hs p 10 (by omega) (by omega) k (by omega)
  rw [ha]
  simp only [Option.bind_some]
  obtain ⟨b, hb, b0, b1⟩ := pick_f hs (p + 1) 10 (by omega) (by omega) k (by omega)
  rw [hb]
  simp only [Option.bind_some]
  obtain ⟨t, ht, t0, t1⟩ := pick_f hs (p + 1 + 1) 4 (by omega) (by omega) k (by omega)
  rw [ht]
  simp only [Option.bind_some]
  obtain ⟨n, hn, n0, n1⟩ := pick_f hs (p + 1 + 1 + 1) 16 (by omega) (by omega) k (by omega)
  rw [hn]
  simp only [Option.bind_some]
  obtain ⟨m, rfl⟩ := Int.eq_ofNat_of_zero_le n0
  obtain ⟨r, q, hr, r0, r1, r2, r3⟩ := drawPath_l0 hs m k [⟨a, b⟩] (p + 1 + 1 + 1 + 1) a b t (by omega) (by omega) (by simp; omega) (by omega) (by omega)
    (fun q hq => by rw [List.mem_singleton.1 hq]; unfold Small; simp only; omega) ⟨a0, a1⟩ ⟨b0, b1⟩ ⟨t0, t1⟩
  exact ⟨r, q, hr, by omega, by omega, by simp at r2; omega, r3⟩
end Go.Proofs.YtdacpdhpifocbaaDoor.Q

namespace Go.Proofs.YtdacpdhpifocbaaDoor.Q
open Go.RowKit Go.Proofs.YtdacpdhpifocbaaDoor.P Go.Proofs.YtdacpdhpifocbaaDoor.Ch Go.Proofs.YtdacpdhpifocbaaDoorW.PrintWords Go.Proofs.YtdacpdhpifocbaaDoorW.PrintLast
set_option linter.unusedVariables false
/-! ### drawn -/
theorem drawWrite_f (l : List Int) (hb : ∀ x ∈ l, (Lit.int .u8 x).wf = true) (k : Nat) (hk : 100 ≤ k) : ∃ r, spec_DrawCodeWrite.f k l = some r ∧ r.length ≤ 17 := by
  obtain ⟨s, ho, hs⟩ := open_f l hb
  obtain ⟨r, q, hr, _, _, r2, r3⟩ := drawPath_f hs 0 (by omega) k hk
  unfold spec_DrawCodeWrite.f
  rw [ho]
  simp only [Option.bind_some]
  rw [hr]
  exact ⟨r, rfl, r2⟩
theorem list_nil {a : ByteArray} : a.toList = ([] : List UInt8) ↔ a = bx [] := by
  rw [Go.ByteArray.toList_eq]
  exact ⟨fun h => by rw [bx_of a, h], fun h => by rw [h]; rfl⟩
theorem path_of_text {l : List PT} (h : cwText l ≠ bx []) : IsPath l := cwText_path h
/-! ### a path without its last leg -/
theorem filter_last (f : Nat → Bool) : ∀ m, (List.range' 0 m).filter f ≠ [] → ∃ j, j < m ∧ f j = true ∧ (List.range' 0 m).filter f = (List.range' 0 j).filter f ++ [j]
  | 0, h => absurd rfl h
  | m + 1, h => by
    rw [List.range'_concat, List.filter_append] at h ⊢
    simp only [Nat.zero_add, Nat.one_mul] at h ⊢
    by_cases hm : f m = true
    · exact ⟨m, by omega, hm, by simp [hm]⟩
    · have e : List.filter f [m] = [] := by simp [hm]
      rw [e, List.append_nil] at h ⊢
      obtain ⟨j, hj, hf, he⟩ := filter_last f m h
      exact ⟨j, by omega, hf, he⟩
theorem filter_same (f f' : Nat → Bool) (n : Nat) (h : ∀ i, i < n → f i = f' i) : (List.range' 0 n).filter f = (List.range' 0 n).filter f' := by
  apply List.filter_congr
  intro x hx
  rw [List.mem_range'] at hx
  obtain ⟨i, hi, rfl⟩ := hx
  exact h _ (by omega)
theorem turns_split {l : List PT} (h : IsPath l) : turns l = ((List.range' 0 (l.length - 1)).filter (turnAt l)).map (g l) ++ [g l (l.length - 1)] := by
  obtain ⟨n, hn⟩ : ∃ n, l.length = n + 1 := ⟨l.length - 1, by have := h.1; omega⟩
  unfold turns turnsFrom
  rw [Nat.sub_zero, hn, List.range'_concat, List.filter_append, List.map_append]
  simp only [Nat.zero_add, Nat.one_mul, Nat.add_sub_cancel]
  have e : turnAt l n = true := by simp [turnAt, hn]
  simp [e]
theorem g_take {l : List PT} {n i : Nat} (h : i < n) : g (l.take n) i = g l i := by
  unfold g
  simp [List.getD_eq_getElem?_getD, List.getElem?_take, h]
theorem path_cut {l : List PT} (h : IsPath l) (h2 : 2 ≤ (turns l).length) : ∃ m, m < l.length ∧ IsPath (l.take m) ∧ turns (l.take m) = (turns l).dropLast := by
  have hs := turns_split h
  have hne : (List.range' 0 (l.length - 1)).filter (turnAt l) ≠ [] := fun e => by rw [hs, e] at h2; simp at h2
  obtain ⟨j, hj, hf, he⟩ := filter_last (turnAt l) _ hne
  have hlen : (l.take (j + 1)).length = j + 1 := by rw [List.length_take]; omega
  have hp : IsPath (l.take (j + 1)) := by
    refine ⟨by omega, by have := h.2.1; omega, fun i _ hi => ?_⟩
    have := h.2.2 i (Nat.zero_le _) (by omega)
    rw [g_take (by omega)]
    refine ⟨this.1, fun h0 => ?_⟩
    rw [g_take (by omega)]
    exact this.2 h0
  refine ⟨j + 1, by omega, hp, ?_⟩
  rw [turns_split hp, hs, hlen, Nat.add_sub_cancel, he, List.dropLast_concat, List.map_append, List.map_singleton, g_take (by omega)]
  congr 1
  rw [filter_same (turnAt (l.take (j + 1))) (turnAt l) j (fun i hi => by
    unfold turnAt
    rw [hlen, g_take (by omega), g_take (by omega), g_take (by omega), show decide (i + 1 = j + 1) = false by simp; omega, show decide (i + 1 = l.length) = false by simp; omega])]
  apply List.map_congr_left
  intro x hx
  have := (List.mem_filter.1 hx).1
  rw [List.mem_range'] at this
  obtain ⟨i, hi, rfl⟩ := this
  exact g_take (by omega)
theorem wlines_app : ∀ (a b : List PT) (i : Nat), wlines i (a ++ b) = wlines i a ++ wlines (i + a.length) b
  | [], b, i => by simp [wlines]
  | p :: a, b, i => by rw [List.cons_append, wlines, wlines, wlines_app a b (i + 1)]; simp [Nat.add_assoc, Nat.add_comm 1]
theorem text_cut {l : List PT} (h : IsPath l) : (cwText l).extract 0 ((cwText l).size - 9) = bx (wlines 0 (turns l).dropLast) := by
  obtain ⟨a, b, hab⟩ : ∃ a b, turns l = a ++ [b] := ⟨_, _, turns_split h⟩
  rw [cwText_size h, cwText_path' h, extract_bx, hab, List.dropLast_concat, wlines_app, List.length_append, List.length_singleton]
  congr 1
  have := wlines_len a 0
  rw [List.drop_zero, List.take_append_of_le_length (by omega), List.take_of_length_le (by omega)]
theorem crd_off {s : ByteArray} (h : ¬ (∃ n, 1 ≤ n ∧ s.size = 9 * n)) : crd s = ([], false) := by
  apply crd_none
  rintro ⟨p, hp, rfl⟩
  obtain ⟨t, ht⟩ := turns_ne hp
  exact h ⟨(turns p).length, by rw [ht]; simp, cwText_size hp⟩
end Go.Proofs.YtdacpdhpifocbaaDoor.Q

namespace Go.Proofs.YtdacpdhpifocbaaDoor.Pure
open Go.RowKit Go.Proofs.YtdacpdhpifocbaaDoor.P Go.Proofs.YtdacpdhpifocbaaDoor.Q Go.Proofs.YtdacpdhpifocbaaDoor.Ch Go.Proofs.YtdacpdhpifocbaaDoorW.PrintWords Go.Proofs.YtdacpdhpifocbaaDoorW.PrintLast
set_option linter.unusedVariables false
theorem FnCodeCut : laws_FnCodeCut.Pure := by
  intro l0 _ _ h0
  refine ⟨50000, ?_⟩
  obtain ⟨a, ha, a1⟩ := drawWrite_f l0 h0 50000 (by omega)
  unfold laws_FnCodeCut.f
  by_cases b0 : (l0.length : Int) > 1048576
  · rw [if_pos b0]
  · rw [if_neg b0, ha, Option.bind_some, implCodeWrite a (by omega) _ (by omega), Option.bind_some, specCodeWrite a (by omega) _ (by omega), Option.bind_some, if_pos rfl, show (50000 : Nat) = 49999 + 1 from rfl]
    by_cases ea : (cwText a).toList = ([] : List UInt8)
    · rw [show ((cwText a).toList == ([] : List UInt8)) = true from beq_iff_eq.2 ea, laws_FnCodeCut.j0, if_pos rfl, specCodeWrite a (by omega) _ (by omega), Option.bind_some, beq_self_eq_true]
    · have pa : IsPath a := path_of_text (fun e => ea (list_nil.2 e))
      have hsz := cwText_size pa
      have hle := turns_le a
      obtain ⟨t, ht⟩ := turns_ne pa
      have hn : 1 ≤ (turns a).length := by rw [ht]; simp
      have w1 : wrap64 (((cwText a).size : Int) - 1) = (((cwText a).size - 1 : Nat) : Int) := by rw [w_id (by omega) (by omega)]; omega
      have w9 : wrap64 (((cwText a).size : Int) - 9) = (((cwText a).size - 9 : Nat) : Int) := by rw [w_id (by omega) (by omega)]; omega
      have c1 : crd ((cwText a).extract 0 ((((cwText a).size - 1 : Nat) : Int)).toNat) = ([], false) := crd_off (by
        rintro ⟨n, _, e⟩
        rw [ByteArray.size_extract] at e
        simp only [Int.toNat_natCast] at e
        omega)
      have c3 : crd (cwText a ++ (⟨#[32]⟩ : ByteArray)) = ([], false) := crd_off (by
        rintro ⟨n, _, e⟩
        rw [ByteArray.size_append, show (⟨#[32]⟩ : ByteArray).size = 1 from rfl] at e
        omega)
      have c2 : crd ((cwText a).extract 0 ((((cwText a).size - 9 : Nat) : Int)).toNat) = crd (bx (wlines 0 (turns a).dropLast)) := by
        rw [Int.toNat_natCast, text_cut pa]
      rw [show ((cwText a).toList == ([] : List UInt8)) = false from by simpa using ea, laws_FnCodeCut.j0, if_neg (by simp), w1, w9, if_pos (by omega), if_pos (by omega), implCodeRead _ _ (by omega), Option.bind_some, c1, if_pos (by omega), if_pos (by omega), implCodeRead _ _ (by omega), Option.bind_some, c2, if_pos (by omega), implCodeRead _ _ (by omega), Option.bind_some, c3, implCodeTurns a (by omega) _ (by omega), Option.bind_some, codeTurns_path pa, if_neg (by simp), if_neg (by simp)]
      by_cases h1 : (turns a).length = 1
      · have e : crd (bx (wlines 0 (turns a).dropLast)) = ([], false) := crd_off (by
          rintro ⟨n, hn', e⟩
          rw [bx_size, Q.wlines_len, List.length_dropLast] at e
          omega)
        rw [e, if_pos (by rw [decide_eq_false (by omega)]; rfl), if_neg (by simp)]
      · obtain ⟨m, hm, pm, tm⟩ := path_cut pa (by omega)
        have e : crd (bx (wlines 0 (turns a).dropLast)) = (a.take m, true) := by
          rw [← tm, ← cwText_path' pm, crd_path pm]
        have hml : (a.take m).length = m := by rw [List.length_take]; omega
        rw [e, if_pos (by rw [decide_eq_true (by omega)]; rfl), if_pos rfl]
        simp only [hml]
        rw [if_pos (by omega), if_pos (by omega), if_pos (by omega), Int.toNat_natCast, luSame_self _ (by omega) _ (by omega), Option.bind_some]
end Go.Proofs.YtdacpdhpifocbaaDoor.Pure

namespace Go.Proofs.YtdacpdhpifocbaaDoor.fnCodeCut
open Go.ChangeShapes Go.WideShapes Go.ChangeAt Go.RowKit
open Go.ChangeMaps (open_string shut_string)
set_option linter.unusedVariables false
theorem own : ownKnob Tryd.prog.godebug = none := by kernel_rfl
theorem laidOut : laidOutB Tryd.prog = true := by kernel_rfl
def IsRow (k : IntKind) (w : World) (a : Option Addr) (len cap : Nat) (zs : List Int) : Prop :=
  (a = none ∧ len = 0 ∧ cap = 0 ∧ zs = []) ∨
  ∃ x, a = some x ∧ len ≤ cap ∧ cap ≤ maxLen ∧ zs.length = cap ∧ (∀ i, i < zs.length → w.cell? (x.add i) = some (.int k (zs.getD i 0))) ∧ ∀ n ∈ zs, (Lit.int k n).wf = true
set_option maxRecDepth 100000 in
theorem lifted (os : Os) (started : os.Started) (H : Type) (enc : TypeId × Value → H) :
    ReturnsInHanded {} Tryd.checked os 6 .any (fun w args => (Rows.fnCodeCutSpec.pre enc Tryd.prog Tryd.f6 Rows.fnCodeCutRow.domain false w args ∧ laidMetH Tryd.prog Rows.fnCodeCutRow.laid w) ∧ sizedMet enc Tryd.prog Tryd.f6 (OpenSpec.ofChange Rows.fnCodeCutSpec) false w args) (Rows.fnCodeCutSpec.post enc Tryd.prog Tryd.f6 false true false false) := by
  refine returnsInHanded_of_change_and (C := Tryd.checked) (X := fun w _ => laidMetH Tryd.prog Rows.fnCodeCutRow.laid w) (fun _ _ _ hh h => h.of_heap hh) own started (by kernel_rfl) Tryd.func6
    (ChangeSpec.witness_shaped (enc := enc) (C := Tryd.checked) (os := os) (X := fun w _ => laidMetH Tryd.prog Rows.fnCodeCutRow.laid w) false (World.laidAll Tryd.prog os Rows.fnCodeCutRow.laid) #[.slice none 0 0] 8 (World.laidAll_os _ _ _) (World.shaped_of_ZipB (by kernel_rfl) (by kernel_rfl)) (by kernel_rfl) (by kernel_rfl) (by kernel_rfl)
      (by rw [MakeChecks.laidMetH_plain _ _ _ (by kernel_rfl)]; exact laidMet_laidAll _ (by kernel_rfl) (by kernel_rfl))) ?_
  intro W base args ds gs before hval0 hW hcnd hsz0 _ _
  have hsz : (DataW.weightsEach Tryd.prog (Tryd.f6.params.toList ++ Rows.fnCodeCutSpec.plain.varTypes Tryd.prog) (ds ++ gs)).all (· ≤ reachBytes) = true := hsz0
  have hval : ∀ (j : Nat) t v, Tryd.f6.params[j]? = some t → args[j]? = some v → Value.okWide Tryd.prog W .any base t v := hval0
  have hW' := hW
  obtain ⟨p, q, hA0, hV, rfl, hfz, hnd⟩ := hW
  have hA : DataW.TrodAll enc Tryd.prog W 0 (fun _ => true) true Tryd.f6.params.toList args.toList ds p := hA0
  rw [Tryd.params6] at hA hval hsz
  obtain ⟨v0, vs0, d0, ds0, p0, q0, hargs, rfl, rfl, h0, r0⟩ := trodAll_cons hA
  obtain ⟨rfl, rfl, rfl⟩ := trodAll_nil r0
  obtain rfl : args = #[v0] := by cases args; simp_all
  obtain ⟨rfl, rfl⟩ := trodVars_none hV
  obtain ⟨a0, len0, cap0, rfl⟩ := okWide_slice Tryd.underlying29 (hval 0 29 v0 rfl rfl)
  have k0 := h0
  have lt0 : ∀ x ∈ p0, x.block < W.heap.size := by obtain ⟨m, hm⟩ := k0; exact DataW.trod_lt m _ _ _ hm
  obtain ⟨z0, w0⟩ : ∃ zs, IsRow .u8 W a0 len0 cap0 zs := by
    obtain ⟨fuel, hf⟩ := h0
    rcases open_ints Tryd.underlying29 Tryd.underlying5 (by kernel_rfl) hf with ⟨hcs, _⟩ | ⟨x, l, c, zs, hcs, _, hl, hm, hz, _, hcell, hwz⟩
    · simp [Value.cells] at hcs
      obtain ⟨rfl, rfl, rfl⟩ := hcs
      exact ⟨[], .inl ⟨rfl, rfl, rfl, rfl⟩⟩
    · simp [Value.cells] at hcs
      obtain ⟨rfl, rfl, rfl⟩ := hcs
      exact ⟨zs, .inr ⟨_, rfl, hl, hm, by simpa using hz, hcell, hwz⟩⟩
  have y0 : len0 * 1 ≤ 140737488351232 := Go.Proofs.YtdacpdhpifocbaaDoorW.PrintWords.sized_ints hsz (j := 0) (t := 29) rfl rfl Tryd.underlying29 Tryd.underlying5 (by kernel_rfl) (by kernel_rfl) h0
  clear hA0 hval0 hsz0 hsz
  refine (P.laws_FnCodeCut.walk Pure.FnCodeCut a0 len0 cap0 z0 W w0 y0).mono fun e W' ⟨he, bel⟩ => ?_
  subst he
  exact ⟨_, rfl, _, _, _, [], _, [], hW', trodAll_mk1 (shut_bool Tryd.underlying4 _), (trodAll_cons_mk (Below.trod laidOut (by kernel_rfl) (of_decide_eq_true (by kernel_rfl)) k0 bel lt0) trodAll_mk0), rfl, bel.frame _, fun h => by cases h⟩
theorem over : Rows.fnCodeCutRow.holds Tryd.pinned (OpenSpec.ofChange Rows.fnCodeCutSpec) :=
  OpenClaim.holds_of_wide 6 Tryd.f6 rfl rfl rfl rfl rfl rfl rfl ⟨rfl, rfl, rfl, rfl, rfl⟩ rfl rfl rfl rfl rfl (by kernel_rfl) Tryd.func6 (by kernel_rfl)
    (of_decide_eq_true (by kernel_rfl)) (by unfold Func.isWrapper; first | (rw [if_pos (by decide +kernel)]; kernel_rfl) | (rw [if_neg (by decide +kernel)]; exact ⟨rfl, rfl⟩))
    (fun os started H enc _ => lifted os started H enc)
theorem proved : Rows.FnCodeCutSaid := over
#print axioms proved
end Go.Proofs.YtdacpdhpifocbaaDoor.fnCodeCut
namespace Go.Proofs.YtdacpdhpifocbaaDoor
theorem fnCodeCut_holds : Rows.FnCodeCutSaid := fnCodeCut.proved
end Go.Proofs.YtdacpdhpifocbaaDoor

