/- An argument that is a slice of points, opened to the print's reading of it. -/
import Derived.Test.YtdacpdhpifocbaaF0
import Derived.Test.YtdacpdhpifocbaaWSized
import Derived.Deep.Slices
import Derived.Deep.Fields
import Derived.ChangeSame
import Derived.SizedLaws
namespace Go.Proofs.Ytdacpdhpifocbaa.Open
open Go.ChangeShapes Go.WideShapes Go.Deep Go.RowKit Go.Proofs.Ytdacpdhpifocbaa.P Go.Proofs.YtdacpdhpifocbaaW.PrintWords Go.Proofs.YtdacpdhpifocbaaW.PrintLast
section
variable {H : Type} {enc : TypeId × Value → H} {P : Program} {w : World} {base : Nat} {spare : Nat → Bool} {held : Bool}
theorem open_slice_fields {t e : TypeId} {fs : Array Field} {fuel : Nat} {cs : List Value} {x : DataW H × List MemPlace} (ht : P.underlying t = some (.slice e)) (he : P.underlying e = some (.struct fs))
    (hone : oneCellFields P fs = true) (hC : P.cellsOf e = fs.size) (h : DataW.trod enc P w base spare held fuel t cs = some x) :
    (cs = [.slice none 0 0] ∧ x = (.nil, [])) ∨
    ∃ (a : Addr) (len cap m : Nat) (D : Nat → DataW H) (Pl : Nat → List MemPlace), cs = [.slice (some a) len cap] ∧ base ≤ a.block ∧ len ≤ cap ∧ cap ≤ maxLen ∧ m = (if spare a.block then cap else len) ∧
      x = (.slice ((List.range len).map D) ((List.range (m - len)).map fun j => D (len + j)), MemPlace.row a (m * fs.size) ++ (List.range m).flatMap Pl) ∧
      ∀ i, i < m → ∃ (ys : List (DataW H × List MemPlace)) (n : Nat), D i = .agg (ys.map (·.1)) ∧ Pl i = ys.flatMap (·.2) ∧ ys.length = fs.size ∧
        ∀ (j : Nat) (f : Field), fs[j]? = some f → ∃ (v : Value) (y : DataW H × List MemPlace), w.cell? (a.add (i * fs.size + j)) = some v ∧ ys[j]? = some y ∧ DataW.trod enc P w base spare held n f.type [v] = some y := by
  rcases open_slice ht h with h0 | ⟨a, len, cap, m, n, D, Pl, hcs, hb, hl, hm, hmm, hx, hi⟩
  · exact .inl h0
  · refine .inr ⟨a, len, cap, m, D, Pl, hcs, hb, hl, hm, hmm, by rw [hC] at hx; exact hx, fun i him => ?_⟩
    obtain ⟨cs', hc, ht'⟩ := hi i him
    rw [hC] at hc
    obtain ⟨ys, n', hn', hy, hlen, hyl, hf⟩ := DataW.trod_struct he ht'
    obtain ⟨_, hcl, hat⟩ := World.cells?_some hc
    simp only [Prod.mk.injEq] at hy
    refine ⟨ys, n', hy.1, hy.2, hyl, fun j f hj => ?_⟩
    obtain ⟨ho, hk⟩ := hone_of hone j f hj
    have hjl : j < fs.size := (Array.getElem?_eq_some_iff.1 hj).1
    have hcell := hat j hjl
    have hv : cs'[j]? = some (cs'[j]'(by omega)) := List.getElem?_eq_getElem (by omega)
    have h1 := hf j f hj
    rw [ho, hk] at h1
    have hone' : (cs'.drop j).take 1 = [cs'[j]'(by omega)] := by
      rw [List.drop_eq_getElem_cons (by omega)]
      rfl
    rw [hone'] at h1
    have hys : ys[j]? = some (ys[j]'(by omega)) := List.getElem?_eq_getElem (by omega)
    refine ⟨_, _, ?_, hys, h1.trans hys⟩
    rw [← Go.Deep.add_add, hcell, hv]
end
/-- A slice of points, as the print reads it; no longer than its datum. -/
theorem open_pts {H : Type} {enc : TypeId × Value → H} {W : World} {a0 : Option Addr} {len cap : Nat} {d : DataW H} {p : List MemPlace}
    (h : DataW.Trod enc Try.prog W 0 (fun _ => true) true 22 (.slice a0 len cap) d p) :
    ∃ l : List S42, l.length = len ∧ Kd.C k42 W a0 l.length l ∧ l.length ≤ cap ∧ (d = .nil ∧ len = 0 ∨ ∃ elems spare, d = .slice elems spare ∧ elems.length = len) := by
  obtain ⟨fuel, hf⟩ := h
  rcases open_slice_fields Try.underlying22 Try.underlying42 (by kernel_rfl) (by kernel_rfl) hf with ⟨hcs, hx⟩ | ⟨a, l, c, m, D, Pl, hcs, _, hl, hm, hmm, hx, hi⟩
  · simp [Value.cells] at hcs
    obtain ⟨rfl, rfl, rfl⟩ := hcs
    simp only [Prod.mk.injEq] at hx
    exact ⟨[], rfl, ⟨rfl, by simp, fun h => absurd h (by simp)⟩, by simp, .inl ⟨hx.1, rfl⟩⟩
  · simp [Value.cells] at hcs
    obtain ⟨rfl, rfl, rfl⟩ := hcs
    simp only [Prod.mk.injEq] at hx
    rw [if_pos rfl] at hmm
    have hF : ∀ i, ∃ q : S42, i < len → W.cell? (a.add (i * 2)) = some (.int .i64 q.f0) ∧ W.cell? (a.add (i * 2 + 1)) = some (.int .i64 q.f1) := fun i => by
      by_cases hlt : i < len
      · obtain ⟨ys, n, _, _, _, hfs⟩ := hi i (by omega)
        obtain ⟨v0, y0, c0, _, t0⟩ := hfs 0 _ rfl
        obtain ⟨v1, y1, c1, _, t1⟩ := hfs 1 _ rfl
        obtain ⟨n0, e0, _, _⟩ := DataW.trod_int Try.underlying3 t0
        obtain ⟨n1, e1, _, _⟩ := DataW.trod_int Try.underlying3 t1
        obtain rfl := (List.cons.inj e0).1
        obtain rfl := (List.cons.inj e1).1
        exact ⟨⟨n0, n1⟩, fun _ => ⟨by simpa using c0, by simpa using c1⟩⟩
      · exact ⟨z42, fun h => absurd h hlt⟩
    refine ⟨(List.range len).map fun i => Classical.choose (hF i), by simp, ⟨by simp, by simp only [maxLen] at hm; simp; omega, fun _ => ⟨a, rfl, fun j q hq => ?_⟩⟩, by simpa using hl, .inr ⟨_, _, hx.1, by simp⟩⟩
    have hj : j < len := by
      rcases Nat.lt_or_ge j len with h | h
      · exact h
      · rw [List.getElem?_eq_none (by simpa using h)] at hq; cases hq
    have e : q = Classical.choose (hF j) := by
      rw [List.getElem?_map, List.getElem?_range hj] at hq
      exact (Option.some.inj hq).symm
    obtain ⟨h0, h1⟩ := Classical.choose_spec (hF j) hj
    rw [← e] at h0 h1
    refine ⟨[.int .i64 q.f0, .int .i64 q.f1], rfl, k42_mk W q, fun i u hu => ?_⟩
    match i, hu with
    | 0, hu => obtain rfl := Option.some.inj hu; exact h0
    | 1, hu => obtain rfl := Option.some.inj hu; exact h1
end Go.Proofs.Ytdacpdhpifocbaa.Open
