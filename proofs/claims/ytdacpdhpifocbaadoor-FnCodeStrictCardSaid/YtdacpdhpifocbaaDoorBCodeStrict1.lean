/- Part 2 of what CodeStrict rests on: contracts of the program's functions and plain facts (the print's texts and the session's own, put together). -/
import Derived.Test.YtdacpdhpifocbaaDoorRows
import Derived.Test.YtdacpdhpifocbaaDoorProg
import Derived.Below
import Derived.Deep.Draws
import Derived.Deep.AppendLies
import Derived.Maps.AppendAt
import Derived.OwnWalk
import Derived.Laws.BytesArg
import Derived.Laws.MakeOwn
import Derived.Laws.OwnMore
import Derived.Deep.OwnRows
import Derived.Tactics
import Derived.Lib.ConvBytes
import Derived.Laws.Slices
import Derived.WalkKit
import Derived.KernelRfl
import Derived.RowKit3
import Derived.Deep.LoopGhost
import Derived.Deep.QuietTactic
import Derived.BigQuiet
import Derived.WideLaws
import Derived.Deep.DeepCutAuto
import Derived.Deep.CutBlock
import Derived.Deep.RegionHeld3
import Derived.Laws.Rows
import Derived.Lib.AppendStr
import Derived.ArgAppend
import Derived.Laws.IdiomCopy
import Derived.OrdersHeld
import Derived.Laws.BitsLemmas
import Derived.RowKit
import Derived.Handy
import Derived.ProofKit
import Derived.Shelf.Strings.Builder1
import Derived.Shelf.Strings.BuilderF
import Derived.Shelf.Strings.BuilderK
import Derived.Shelf.Strconv.Itoa0
import Derived.Shelf.Strconv.Itoa1
import Derived.Shelf.LaysM
import Derived.Shelf.Strconv.Itoa2
import Derived.Shelf.Strconv.Itoa3
import Derived.Shelf.Strings.Search1
import Derived.Shelf.Strings.Search2
import Derived.Shelf.Strings.Search3
import Derived.Shelf.Strings.Count
import Derived.Shelf.Strings.Shaped
import Derived.Shelf.Strings.Prefix
import Derived.Shelf.Strings.Split
import Derived.Shelf.Strings.SplitShaped
import Derived.Shelf.Unicode.DecodeSlow
import Derived.Laws.Concat
import Derived.Lib.Hide
import Derived.Conc.LoneCalls
import Derived.Conc.SmallLaws
import Derived.BigRegion
import Derived.RangeFuncBox
import Derived.IntWalk
import Derived.Lay
import Derived.LaidMore
import Derived.OpenShut
import Derived.ShutString
import Derived.ChangeOld
import Derived.SizedLaws
import Derived.Test.YtdacpdhpifocbaaDoorBCodeStrict0
namespace Go.Proofs.YtdacpdhpifocbaaDoor.P
open Go.RowKit Go.Proofs.YtdacpdhpifocbaaDoorW.PrintWords Go.Proofs.YtdacpdhpifocbaaDoorW.PrintLast Go.Proofs.YtdacpdhpifocbaaDoorW.PrintMore
attribute [local go_sem] max2_int min2_int max_two min_two max_three min_three max_four min_four
set_option linter.unusedVariables false
set_option linter.unusedSimpArgs false
def errW : Option Int → Value
  | none => .nilIface
  | some c => .iface 0 (.int .i64 c)
theorem errW_none : errW none = .nilIface := rfl
theorem errW_some (c : Int) : errW (some c) = .iface 0 (.int .i64 c) := rfl
theorem info3 : (Tryd.prog.info? 3).map (fun i => (i.zero, i.size, i.bytes)) = some (some (.int .i64 0), 1, 8) := by kernel_rfl
theorem info5 : (Tryd.prog.info? 5).map (fun i => (i.zero, i.size, i.bytes)) = some (some (.int .u8 0), 1, 1) := by kernel_rfl
theorem info9 : (Tryd.prog.info? 9).map (fun i => (i.zero, i.size, i.bytes)) = some (some (.string ⟨#[]⟩), 1, 16) := by kernel_rfl
theorem info35 : (Tryd.prog.info? 35).map (fun i => (i.zero, i.size, i.bytes)) = some (some (.agg #[(.int .i64 0), (.int .i64 0)]), 2, 16) := by kernel_rfl
structure S35 where
  f0 : Int
  f1 : Int
def z35 : S35 := ⟨(0 : Int), (0 : Int)⟩
def k35 : Kd S35 := Kd.iso (Kd.pair (Kd.int .i64) (Kd.int .i64)) (fun x : S35 => (x.f0, x.f1))
theorem k35_open {w : World} {x : S35} {cs : List Value} (h : k35.K w x cs) : cs = [.int .i64 x.f0, .int .i64 x.f1] := by
  obtain ⟨_, _, rfl, rfl, rfl⟩ := h
  exact rfl
theorem k35_openM {w : World} {base : Nat} {ok : Nat → Prop} {x : S35} {cs : List Value} (h : k35.M w base ok x cs) : cs = [.int .i64 x.f0, .int .i64 x.f1] := by
  obtain ⟨_, _, rfl, rfl, rfl⟩ := h
  exact rfl
theorem k35_mk (w : World) (x : S35)  : k35.K w x [.int .i64 x.f0, .int .i64 x.f1] := ⟨[.int .i64 x.f0], [.int .i64 x.f1], rfl, rfl, rfl⟩
theorem k35_mkM (w : World) (base : Nat) (ok : Nat → Prop) (x : S35)  : k35.M w base ok x [.int .i64 x.f0, .int .i64 x.f1] := ⟨[.int .i64 x.f0], [.int .i64 x.f1], rfl, rfl, rfl⟩
def rd_T35 (xs : List S35) (i : Int) : S35 := xs.getD i.toNat z35
theorem at_T35 {w : World} {A : Option Addr} {n : Nat} {xs : List S35} (h : Kd.C k35 w A n xs) (i : Int) (h0 : 0 ≤ i) (h1 : i < n) : ∃ ad , A = some ad ∧ w.cell? (ad.add (i.toNat * 2)) = some (.int .i64 (rd_T35 xs i).f0) ∧ w.cell? ⟨(ad.add (i.toNat * 2)).block, (ad.add (i.toNat * 2)).off + 1, none⟩ = some (.int .i64 (rd_T35 xs i).f1) := by
  obtain ⟨ad, c, e, _, hK, hc0⟩ := Kd.C_get h z35 i h0 h1
  have hc : ∀ j u, c[j]? = some u → w.cell? (ad.add (i.toNat * 2 + j)) = some u := hc0
  obtain rfl := k35_open hK
  exact ⟨ad, e, hc 0 _ rfl, by rw [← add_field _ _ 1 (by omega)]; exact hc 1 _ rfl⟩
def rd_L3 (xs : List (List S35)) (i : Int) : (List S35) := xs.getD i.toNat ([] : List S35)
theorem at_L3 {w : World} {A : Option Addr} {n : Nat} {xs : List (List S35)} (h : Kd.C (Kd.slice 35 k35) w A n xs) (i : Int) (h0 : 0 ≤ i) (h1 : i < n) : ∃ ad A0 c0, A = some ad ∧ w.cell? (ad.add i.toNat) = some (.slice A0 (rd_L3 xs i).length c0) ∧ (rd_L3 xs i).length ≤ c0 ∧ k35.C w A0 (rd_L3 xs i).length (rd_L3 xs i) := by
  obtain ⟨ad, c, e, _, hK, hc0⟩ := Kd.C_get h ([] : List S35) i h0 h1
  have hc : ∀ j u, c[j]? = some u → w.cell? (ad.add (i.toNat * 1 + j)) = some u := hc0
  obtain ⟨A0, c0, rfl, l0, g0⟩ := hK
  exact ⟨ad, A0, c0, e, by have hq := hc 0 _ rfl; rwa [Nat.mul_one, Nat.add_zero] at hq, l0, g0⟩
structure S44 where
  f0 : Int
  f1 : Int
def z44 : S44 := ⟨(0 : Int), (0 : Int)⟩
def k44 : Kd S44 := Kd.iso (Kd.pair (Kd.int .i64) (Kd.int .i64)) (fun x : S44 => (x.f0, x.f1))
theorem k44_open {w : World} {x : S44} {cs : List Value} (h : k44.K w x cs) : cs = [.int .i64 x.f0, .int .i64 x.f1] := by
  obtain ⟨_, _, rfl, rfl, rfl⟩ := h
  exact rfl
theorem k44_openM {w : World} {base : Nat} {ok : Nat → Prop} {x : S44} {cs : List Value} (h : k44.M w base ok x cs) : cs = [.int .i64 x.f0, .int .i64 x.f1] := by
  obtain ⟨_, _, rfl, rfl, rfl⟩ := h
  exact rfl
theorem k44_mk (w : World) (x : S44)  : k44.K w x [.int .i64 x.f0, .int .i64 x.f1] := ⟨[.int .i64 x.f0], [.int .i64 x.f1], rfl, rfl, rfl⟩
theorem k44_mkM (w : World) (base : Nat) (ok : Nat → Prop) (x : S44)  : k44.M w base ok x [.int .i64 x.f0, .int .i64 x.f1] := ⟨[.int .i64 x.f0], [.int .i64 x.f1], rfl, rfl, rfl⟩
def rd_T44 (xs : List S44) (i : Int) : S44 := xs.getD i.toNat z44
theorem at_T44 {w : World} {A : Option Addr} {n : Nat} {xs : List S44} (h : Kd.C k44 w A n xs) (i : Int) (h0 : 0 ≤ i) (h1 : i < n) : ∃ ad , A = some ad ∧ w.cell? (ad.add (i.toNat * 2)) = some (.int .i64 (rd_T44 xs i).f0) ∧ w.cell? ⟨(ad.add (i.toNat * 2)).block, (ad.add (i.toNat * 2)).off + 1, none⟩ = some (.int .i64 (rd_T44 xs i).f1) := by
  obtain ⟨ad, c, e, _, hK, hc0⟩ := Kd.C_get h z44 i h0 h1
  have hc : ∀ j u, c[j]? = some u → w.cell? (ad.add (i.toNat * 2 + j)) = some u := hc0
  obtain rfl := k44_open hK
  exact ⟨ad, e, hc 0 _ rfl, by rw [← add_field _ _ 1 (by omega)]; exact hc 1 _ rfl⟩
def rd_L6 (xs : List (List ByteArray)) (i : Int) : (List ByteArray) := xs.getD i.toNat ([] : List ByteArray)
theorem at_L6 {w : World} {A : Option Addr} {n : Nat} {xs : List (List ByteArray)} (h : Kd.C (Kd.slice 9 Kd.string) w A n xs) (i : Int) (h0 : 0 ≤ i) (h1 : i < n) : ∃ ad A0 c0, A = some ad ∧ w.cell? (ad.add i.toNat) = some (.slice A0 (rd_L6 xs i).length c0) ∧ (rd_L6 xs i).length ≤ c0 ∧ Kd.string.C w A0 (rd_L6 xs i).length (rd_L6 xs i) := by
  obtain ⟨ad, c, e, _, hK, hc0⟩ := Kd.C_get h ([] : List ByteArray) i h0 h1
  have hc : ∀ j u, c[j]? = some u → w.cell? (ad.add (i.toNat * 1 + j)) = some u := hc0
  obtain ⟨A0, c0, rfl, l0, g0⟩ := hK
  exact ⟨ad, A0, c0, e, by have hq := hc 0 _ rfl; rwa [Nat.mul_one, Nat.add_zero] at hq, l0, g0⟩
end Go.Proofs.YtdacpdhpifocbaaDoor.P
namespace Go.Proofs.YtdacpdhpifocbaaDoor.Ch
open Go.Shelf Go.RowKit
theorem bSize : (Tryd.prog.info? 49).map (·.size) = some 2 := by kernel_rfl
theorem bByte : (Tryd.prog.info? 5).map (fun i => (i.zero, i.size, i.bytes)) = some (some (.int .u8 0), 1, 1) := by kernel_rfl
theorem noEsc : Tryd.prog.funcs[66]? = some Tryd.f66 := Tryd.func66
set_option maxHeartbeats 1000000 in
set_option maxRecDepth 100000 in
theorem copyCheck_used (b : Nat) (w : World) (h0 : w.cell? ⟨b, 0, none⟩ = some (.pointer (some ⟨b, 0, none⟩))) :
    Calls Tryd.prog 57 #[.pointer (some ⟨b, 0, none⟩)] w fun e w' => e = .returned (.tuple #[]) ∧ w' = w := by
  obtain ⟨j, hj, _⟩ := Option.map_eq_some_iff.1 bSize
  go_enter Tryd.func57, Tryd.ntmps57
  go_wp2
  rw [Lib.run_neq_ptr_same w _ Tryd.underlying47 hj]
  go_wp2
  go_end0
  exact ⟨rfl, rfl⟩
set_option maxHeartbeats 1000000 in
set_option maxRecDepth 100000 in
theorem copyCheck_fresh (b : Nat) (w : World) (h0 : w.cell? ⟨b, 0, none⟩ = some (.pointer none)) (hsh : w.shape? b = some (49, 2)) (hfz : w.frozen? ⟨b, 0, none⟩ = false) :
    Calls Tryd.prog 57 #[.pointer (some ⟨b, 0, none⟩)] w fun e w' => e = .returned (.tuple #[]) ∧ w' = w.setCell ⟨b, 0, none⟩ (.pointer (some ⟨b, 0, none⟩)) := by
  obtain ⟨j, hj, hjs⟩ := Option.map_eq_some_iff.1 bSize
  go_enter Tryd.func57, Tryd.ntmps57
  go_wp2
  rw [Lib.run_to_unsafe w ⟨b, 0, none⟩ Tryd.underlying47 Tryd.underlying83 hj (by rw [hjs]; decide) hsh (Nat.zero_lt_succ 1)]
  simp only [Result.andThen]
  rw [Oper.upon_value]
  go_wp2
  rw [run_callFunc_extern Tryd.func66 (by kernel_rfl) (by kernel_rfl) (by kernel_rfl) (e := Extern.AbiNoEscape.same) (by kernel_rfl)]
  rw [Lib.run_noEscape]
  simp only [Result.andThen]
  rw [Oper.upon_value]
  go_wp2
  rw [Lib.run_from_unsafe w ⟨b, 0, none⟩ Tryd.underlying83 Tryd.underlying47 hj hsh (by kernel_rfl)]
  simp only [Result.andThen]
  rw [Oper.upon_value]
  go_wp2
  go_end0
  exact ⟨rfl, rfl⟩
theorem copyCheck (B b : Nat) (bs : List Value) (w : World) (h : Lib.IsBuilder 49 5 B b bs w) :
    Calls Tryd.prog 57 #[.pointer (some ⟨b, 0, none⟩)] w fun e w' => e = .returned (.tuple #[]) ∧ (Lib.BuilderAt 49 5 B b (.pointer (some ⟨b, 0, none⟩)) bs w' ∧ Below B w w') := by
  rcases h with h | h
  · refine (copyCheck_fresh b w h.cell0 h.shape h.frozen0).mono ?_
    rintro e w' ⟨rfl, rfl⟩
    exact ⟨rfl, h.used _, (Below.refl B w).setCell (p := ⟨b, 0, none⟩) h.1 _⟩
  · refine (copyCheck_used b w h.cell0).mono ?_
    rintro e w' ⟨rfl, rfl⟩
    exact ⟨rfl, h, Below.refl B _⟩
set_option maxHeartbeats 2000000 in
set_option maxRecDepth 100000 in
theorem writeString (B b : Nat) (bs : List Value) (s : ByteArray) (w : World) (h : Lib.IsBuilder 49 5 B b bs w) (hlen : bs.length + s.size ≤ 140737488355328) (hBw : B ≤ w.heap.size) :
    Calls Tryd.prog 32 #[.pointer (some ⟨b, 0, none⟩), .string s] w fun e w' => e = .returned (.tuple #[.int .i64 s.size, .nilIface]) ∧ (Lib.BuilderAt 49 5 B b (.pointer (some ⟨b, 0, none⟩)) (bs ++ Lib.strCells s) w' ∧ Below B w w') := by
  obtain ⟨i0, hi, hz0, hz1, hz2⟩ := info_parts bByte
  go_enter Tryd.func32, Tryd.ntmps32
  go_wp2_with (go_at_call 57; refine (copyCheck B b bs _ h).mono ?_)
  rintro e w1 ⟨rfl, h1, hb1⟩
  obtain ⟨hB, v, hbk, hown, hne⟩ := h1
  have c0 : w1.cell? ⟨b, 0, none⟩ = some (.pointer (some ⟨b, 0, none⟩)) := by rw [Lib.cell_of_heap hbk]; rfl
  have c1 : w1.cell? ⟨b, 1, none⟩ = some v := by rw [Lib.cell_of_heap hbk]; rfl
  go_wp2_with (at_builtin; refine Lib.wpList_append_own_string _ rfl _ _ 29 9 rfl B 5 i0 Tryd.underlying29 Tryd.underlying9 hi hz0 hz1 hz2 _ _ _ rfl hown s rfl ?c3 ?c4 ?c5 ?_)
  case c3 => unfold maxLen; omega
  case c4 => omega
  case c5 => have := hb1.size; omega
  intro v' w2 hown' hgrow _
  have hlt : b < w1.heap.size := by
    rcases Nat.lt_or_ge b w1.heap.size with h' | h'
    · exact h'
    · simp [Array.getElem?_eq_none h'] at hbk
  have hb2 : w2.heap[b]? = some (.cells #[.pointer (some ⟨b, 0, none⟩), v] 49 (0, 0)) := by
    rw [hgrow.block b hlt (fun e => hne e.symm)]
    exact hbk
  have d0 : w2.cell? ⟨b, 0, none⟩ = some (.pointer (some ⟨b, 0, none⟩)) := by rw [Lib.cell_of_heap hb2]; rfl
  have d1 : w2.cell? ⟨b, 1, none⟩ = some v := by rw [Lib.cell_of_heap hb2]; rfl
  have f1 : w2.frozen? ⟨b, 1, none⟩ = false := Lib.frozen_of_heap hb2 1
  obtain ⟨ao, n', cap, rfl⟩ : ∃ ao n' cap, v' = .slice ao n' cap := by
    rcases hown'.2 with ⟨hv, _⟩ | ⟨g, cap, cur, hv, _⟩
    · exact ⟨_, _, _, hv⟩
    · exact ⟨_, _, _, hv⟩
  go_wp2
  go_ret2
  refine ⟨rfl, ?_, ?_⟩
  · exact Lib.BuilderAt.put (T := 49) (e := 5) hB hb2 (bs' := bs ++ Lib.strCells s) (by simpa [Lib.strCells_length] using hown') (by decide)
  · exact (hb1.grown hgrow (by have := hb1.size; omega) (fun k hk => (hown.lt k hk).1)).setCell (p := ⟨b, 1, none⟩) hB _
end Go.Proofs.YtdacpdhpifocbaaDoor.Ch
namespace Go.Proofs
open Go.Shelf
def Tryd.lays169_ren : Go.Shelf.Ren := ⟨fun | 169 => 33 | n => n, fun | 70 => 47 | 9 => 9 | 0 => 0 | 72 => 49 | 37 => 29 | 127 => 75 | 3 => 3 | 5 => 5 | n => n, fun | n => n⟩
theorem Tryd.lays169 : Go.Proofs.Lays.n169 Tryd.prog Tryd.lays169_ren := {
  mixed := by kernel_rfl
  f169 := Tryd.func33.trans (congrArg some (by kernel_rfl))
  t0 := Tryd.underlying0
  a0 := Tryd.isAgg0
  z0 := Tryd.sizeOf0
  v0 := Tryd.zeroValue0
  t3 := Tryd.underlying3
  a3 := Tryd.isAgg3
  z3 := Tryd.sizeOf3
  v3 := Tryd.zeroValue3
  t9 := Tryd.underlying9
  a9 := Tryd.isAgg9
  z9 := Tryd.sizeOf9
  v9 := Tryd.zeroValue9
  t37 := Tryd.underlying29
  a37 := Tryd.isAgg29
  z37 := Tryd.sizeOf29
  v37 := Tryd.zeroValue29
  t70 := Tryd.underlying47
  a70 := Tryd.isAgg47
  z70 := Tryd.sizeOf47
  v70 := Tryd.zeroValue47
  t72 := Tryd.underlying49
  a72 := Tryd.isAgg49
  z72 := Tryd.sizeOf49
  v72 := Tryd.zeroValue49
  t127 := Tryd.underlying75
  a127 := Tryd.isAgg75
  z127 := Tryd.sizeOf75
  v127 := Tryd.zeroValue75 }
theorem Tryd.Builder_Extra_169 : Builder.Extra Tryd.prog Tryd.lays169_ren := {
  sizeBuilder := by kernel_rfl
  liesBuilder := by kernel_rfl
  t5 := Tryd.underlying5
  a5 := Tryd.isAgg5
  z5 := Tryd.sizeOf5
  v5 := Tryd.zeroValue5
  infoByte := by kernel_rfl
  cellsByte := by kernel_rfl
  sizeByte := by kernel_rfl
  neB5 := by decide }
open Go.RowKit in
theorem Tryd.Builder_String_any (B b : Nat) (l : List UInt8) (w : World) (h : Lib.IsBuilder 49 5 B b (Lib.byteCells l) w) (hBw : B ≤ w.heap.size) :
    Calls Tryd.prog 33 #[.pointer (some ⟨b, 0, none⟩)] w fun e w' => e = .returned (.string ⟨l.toArray⟩) ∧ Below B w w' := Any.Builder_String_any Tryd.lays169 Tryd.Builder_Extra_169 B b l w h hBw
def Tryd.lays171_ren : Go.Shelf.Ren := ⟨fun | 171 => 56 | 243 => 65 | 246 => 71 | 283 => 76 | 284 => 77 | 285 => 78 | 286 => 79 | 129 => 86 | 317 => 85 | 318 => 87 | 319 => 88 | 320 => 89 | 337 => 92 | 338 => 93 | n => n, fun | 3 => 3 | 9 => 9 | 2 => 2 | 4 => 4 | 171 => 94 | 0 => 0 | 53 => 95 | 37 => 29 | 5 => 5 | 173 => 98 | 212 => 102 | 51 => 103 | 20 => 20 | 213 => 104 | 46 => 100 | 232 => 114 | 233 => 115 | n => n, fun | 17 => 1 | 18 => 4 | 19 => 5 | n => n⟩
theorem Tryd.lays171 : Go.Proofs.Lays.n171 Tryd.prog Tryd.lays171_ren := {
  mixed := by kernel_rfl
  f129 := Tryd.func86.trans (congrArg some (by kernel_rfl))
  f171 := Tryd.func56.trans (congrArg some (by kernel_rfl))
  f243 := Tryd.func65.trans (congrArg some (by kernel_rfl))
  f246 := Tryd.func71.trans (congrArg some (by kernel_rfl))
  f283 := Tryd.func76.trans (congrArg some (by kernel_rfl))
  f284 := Tryd.func77.trans (congrArg some (by kernel_rfl))
  f285 := Tryd.func78.trans (congrArg some (by kernel_rfl))
  f286 := Tryd.func79.trans (congrArg some (by kernel_rfl))
  f317 := Tryd.func85.trans (congrArg some (by kernel_rfl))
  f318 := Tryd.func87.trans (congrArg some (by kernel_rfl))
  f319 := Tryd.func88.trans (congrArg some (by kernel_rfl))
  f320 := Tryd.func89.trans (congrArg some (by kernel_rfl))
  f337 := Tryd.func92.trans (congrArg some (by kernel_rfl))
  f338 := Tryd.func93.trans (congrArg some (by kernel_rfl))
  t0 := Tryd.underlying0
  a0 := Tryd.isAgg0
  z0 := Tryd.sizeOf0
  v0 := Tryd.zeroValue0
  t2 := Tryd.underlying2
  a2 := Tryd.isAgg2
  z2 := Tryd.sizeOf2
  v2 := Tryd.zeroValue2
  t3 := Tryd.underlying3
  a3 := Tryd.isAgg3
  z3 := Tryd.sizeOf3
  v3 := Tryd.zeroValue3
  t4 := Tryd.underlying4
  a4 := Tryd.isAgg4
  z4 := Tryd.sizeOf4
  v4 := Tryd.zeroValue4
  t5 := Tryd.underlying5
  a5 := Tryd.isAgg5
  z5 := Tryd.sizeOf5
  v5 := Tryd.zeroValue5
  t9 := Tryd.underlying9
  a9 := Tryd.isAgg9
  z9 := Tryd.sizeOf9
  v9 := Tryd.zeroValue9
  t20 := Tryd.underlying20
  a20 := Tryd.isAgg20
  z20 := Tryd.sizeOf20
  v20 := Tryd.zeroValue20
  t37 := Tryd.underlying29
  a37 := Tryd.isAgg29
  z37 := Tryd.sizeOf29
  v37 := Tryd.zeroValue29
  t46 := Tryd.underlying100
  a46 := Tryd.isAgg100
  z46 := Tryd.sizeOf100
  v46 := Tryd.zeroValue100
  t51 := Tryd.underlying103
  a51 := Tryd.isAgg103
  z51 := Tryd.sizeOf103
  v51 := Tryd.zeroValue103
  t53 := Tryd.underlying95
  a53 := Tryd.isAgg95
  z53 := Tryd.sizeOf95
  v53 := Tryd.zeroValue95
  t171 := Tryd.underlying94
  a171 := Tryd.isAgg94
  z171 := Tryd.sizeOf94
  v171 := Tryd.zeroValue94
  t173 := Tryd.underlying98
  a173 := Tryd.isAgg98
  z173 := Tryd.sizeOf98
  v173 := Tryd.zeroValue98
  t212 := Tryd.underlying102
  a212 := Tryd.isAgg102
  z212 := Tryd.sizeOf102
  v212 := Tryd.zeroValue102
  t213 := Tryd.underlying104
  a213 := Tryd.isAgg104
  z213 := Tryd.sizeOf104
  t232 := Tryd.underlying114
  a232 := Tryd.isAgg114
  z232 := Tryd.sizeOf114
  v232 := Tryd.zeroValue114
  t233 := Tryd.underlying115
  a233 := Tryd.isAgg115
  z233 := Tryd.sizeOf115
  v233 := Tryd.zeroValue115
  g17 := by kernel_rfl
  g18 := by kernel_rfl
  g19 := by kernel_rfl }
open Go.RowKit Go.Sort Go.Lib in
theorem Tryd.strconv_Itoa_small (i : Nat) (hi : i < 100) (w : World) :
    Calls Tryd.prog 56 #[.int .i64 i] w fun e w' => e = .returned (.string ⟨(Lib.decDigits i).toArray⟩) ∧ w' = w := Any.strconv_Itoa_small Tryd.lays171 i hi w
def Tryd.lays143_ren : Go.Shelf.Ren := ⟨fun | 143 => 70 | 219 => 75 | 217 => 81 | 225 => 82 | 224 => 83 | 267 => 84 | 266 => 90 | 314 => 91 | n => n, fun | 9 => 9 | 3 => 3 | 4 => 4 | 5 => 5 | 46 => 100 | 146 => 111 | 51 => 103 | n => n, fun | 1 => 0 | n => n⟩
theorem Tryd.lays143 : Go.Proofs.Lays.n143 Tryd.prog Tryd.lays143_ren := {
  mixed := by kernel_rfl
  f143 := Tryd.func70.trans (congrArg some (by kernel_rfl))
  f217 := Tryd.func81.trans (congrArg some (by kernel_rfl))
  f219 := Tryd.func75.trans (congrArg some (by kernel_rfl))
  f224 := Tryd.func83.trans (congrArg some (by kernel_rfl))
  f225 := Tryd.func82.trans (congrArg some (by kernel_rfl))
  f266 := Tryd.func90.trans (congrArg some (by kernel_rfl))
  f267 := Tryd.func84.trans (congrArg some (by kernel_rfl))
  f314 := Tryd.func91.trans (congrArg some (by kernel_rfl))
  t3 := Tryd.underlying3
  a3 := Tryd.isAgg3
  z3 := Tryd.sizeOf3
  v3 := Tryd.zeroValue3
  t4 := Tryd.underlying4
  a4 := Tryd.isAgg4
  z4 := Tryd.sizeOf4
  v4 := Tryd.zeroValue4
  t5 := Tryd.underlying5
  a5 := Tryd.isAgg5
  z5 := Tryd.sizeOf5
  v5 := Tryd.zeroValue5
  t9 := Tryd.underlying9
  a9 := Tryd.isAgg9
  z9 := Tryd.sizeOf9
  v9 := Tryd.zeroValue9
  t46 := Tryd.underlying100
  a46 := Tryd.isAgg100
  z46 := Tryd.sizeOf100
  v46 := Tryd.zeroValue100
  t51 := Tryd.underlying103
  a51 := Tryd.isAgg103
  z51 := Tryd.sizeOf103
  v51 := Tryd.zeroValue103
  t146 := Tryd.underlying111
  a146 := Tryd.isAgg111
  z146 := Tryd.sizeOf111
  v146 := Tryd.zeroValue111
  g1 := by kernel_rfl }
open Go.RowKit Go.Lib in
theorem Tryd.strings_Index_one (s : ByteArray) (c : UInt8) (w : World) :
    Calls Tryd.prog 70 #[.string s, .string ⟨#[c]⟩] w fun e w' => e = .returned (.int .i64 (Lib.indexByte s.data.toList c)) ∧ w' = w := Any.strings_Index_one Tryd.lays143 s c w
def Tryd.lays138_ren : Go.Shelf.Ren := ⟨fun | 138 => 69 | 195 => 72 | 218 => 74 | 143 => 70 | 219 => 75 | 217 => 81 | 225 => 82 | 224 => 83 | 267 => 84 | 266 => 90 | 314 => 91 | n => n, fun | 9 => 9 | 3 => 3 | 4 => 4 | 5 => 5 | 0 => 0 | 46 => 100 | 146 => 111 | 51 => 103 | n => n, fun | 1 => 0 | n => n⟩
theorem Tryd.lays138 : Go.Proofs.Lays.n138 Tryd.prog Tryd.lays138_ren := {
  mixed := by kernel_rfl
  f138 := Tryd.func69.trans (congrArg some (by kernel_rfl))
  f143 := Tryd.func70.trans (congrArg some (by kernel_rfl))
  f195 := Tryd.func72.trans (congrArg some (by kernel_rfl))
  f217 := Tryd.func81.trans (congrArg some (by kernel_rfl))
  f218 := Tryd.func74.trans (congrArg some (by kernel_rfl))
  f219 := Tryd.func75.trans (congrArg some (by kernel_rfl))
  f224 := Tryd.func83.trans (congrArg some (by kernel_rfl))
  f225 := Tryd.func82.trans (congrArg some (by kernel_rfl))
  f266 := Tryd.func90.trans (congrArg some (by kernel_rfl))
  f267 := Tryd.func84.trans (congrArg some (by kernel_rfl))
  f314 := Tryd.func91.trans (congrArg some (by kernel_rfl))
  t0 := Tryd.underlying0
  a0 := Tryd.isAgg0
  z0 := Tryd.sizeOf0
  v0 := Tryd.zeroValue0
  t3 := Tryd.underlying3
  a3 := Tryd.isAgg3
  z3 := Tryd.sizeOf3
  v3 := Tryd.zeroValue3
  t4 := Tryd.underlying4
  a4 := Tryd.isAgg4
  z4 := Tryd.sizeOf4
  v4 := Tryd.zeroValue4
  t5 := Tryd.underlying5
  a5 := Tryd.isAgg5
  z5 := Tryd.sizeOf5
  v5 := Tryd.zeroValue5
  t9 := Tryd.underlying9
  a9 := Tryd.isAgg9
  z9 := Tryd.sizeOf9
  v9 := Tryd.zeroValue9
  t46 := Tryd.underlying100
  a46 := Tryd.isAgg100
  z46 := Tryd.sizeOf100
  v46 := Tryd.zeroValue100
  t51 := Tryd.underlying103
  a51 := Tryd.isAgg103
  z51 := Tryd.sizeOf103
  v51 := Tryd.zeroValue103
  t146 := Tryd.underlying111
  a146 := Tryd.isAgg111
  z146 := Tryd.sizeOf111
  v146 := Tryd.zeroValue111
  g1 := by kernel_rfl }
open Go.RowKit Go.Lib in
theorem Tryd.strings_Count_one (s : ByteArray) (c : UInt8) (w : World) :
    Calls Tryd.prog 69 #[.string s, .string ⟨#[c]⟩] w fun e w' => e = .returned (.int .i64 (Lib.countByte s.data.toList c)) ∧ w' = w := Any.strings_Count_one Tryd.lays138 s c w
def Tryd.lays221_ren : Go.Shelf.Ren := ⟨fun | 221 => 61 | 268 => 68 | 138 => 69 | 143 => 70 | 195 => 72 | 197 => 73 | 218 => 74 | 219 => 75 | 260 => 80 | 217 => 81 | 225 => 82 | 224 => 83 | 267 => 84 | 266 => 90 | 314 => 91 | n => n, fun | 9 => 9 | 3 => 3 | 31 => 64 | 4 => 4 | 0 => 0 | 105 => 91 | 21 => 21 | 5 => 5 | 46 => 100 | 119 => 107 | 139 => 110 | 138 => 109 | 146 => 111 | 51 => 103 | n => n, fun | 1 => 0 | 3 => 2 | 4 => 3 | n => n⟩
theorem Tryd.lays221 : Go.Proofs.Lays.n221 Tryd.prog Tryd.lays221_ren := {
  mixed := by kernel_rfl
  f138 := Tryd.func69.trans (congrArg some (by kernel_rfl))
  f143 := Tryd.func70.trans (congrArg some (by kernel_rfl))
  f195 := Tryd.func72.trans (congrArg some (by kernel_rfl))
  f197 := Tryd.func73.trans (congrArg some (by kernel_rfl))
  f217 := Tryd.func81.trans (congrArg some (by kernel_rfl))
  f218 := Tryd.func74.trans (congrArg some (by kernel_rfl))
  f219 := Tryd.func75.trans (congrArg some (by kernel_rfl))
  f221 := Tryd.func61.trans (congrArg some (by kernel_rfl))
  f224 := Tryd.func83.trans (congrArg some (by kernel_rfl))
  f225 := Tryd.func82.trans (congrArg some (by kernel_rfl))
  f260 := Tryd.func80.trans (congrArg some (by kernel_rfl))
  f266 := Tryd.func90.trans (congrArg some (by kernel_rfl))
  f267 := Tryd.func84.trans (congrArg some (by kernel_rfl))
  f268 := Tryd.func68.trans (congrArg some (by kernel_rfl))
  f314 := Tryd.func91.trans (congrArg some (by kernel_rfl))
  t0 := Tryd.underlying0
  a0 := Tryd.isAgg0
  z0 := Tryd.sizeOf0
  v0 := Tryd.zeroValue0
  t3 := Tryd.underlying3
  a3 := Tryd.isAgg3
  z3 := Tryd.sizeOf3
  v3 := Tryd.zeroValue3
  t4 := Tryd.underlying4
  a4 := Tryd.isAgg4
  z4 := Tryd.sizeOf4
  v4 := Tryd.zeroValue4
  t5 := Tryd.underlying5
  a5 := Tryd.isAgg5
  z5 := Tryd.sizeOf5
  v5 := Tryd.zeroValue5
  t9 := Tryd.underlying9
  a9 := Tryd.isAgg9
  z9 := Tryd.sizeOf9
  v9 := Tryd.zeroValue9
  t21 := Tryd.underlying21
  a21 := Tryd.isAgg21
  z21 := Tryd.sizeOf21
  v21 := Tryd.zeroValue21
  t31 := Tryd.underlying64
  a31 := Tryd.isAgg64
  z31 := Tryd.sizeOf64
  v31 := Tryd.zeroValue64
  t46 := Tryd.underlying100
  a46 := Tryd.isAgg100
  z46 := Tryd.sizeOf100
  v46 := Tryd.zeroValue100
  t51 := Tryd.underlying103
  a51 := Tryd.isAgg103
  z51 := Tryd.sizeOf103
  v51 := Tryd.zeroValue103
  t105 := Tryd.underlying91
  a105 := Tryd.isAgg91
  z105 := Tryd.sizeOf91
  v105 := Tryd.zeroValue91
  t119 := Tryd.underlying107
  a119 := Tryd.isAgg107
  z119 := Tryd.sizeOf107
  t138 := Tryd.underlying109
  a138 := Tryd.isAgg109
  z138 := Tryd.sizeOf109
  v138 := Tryd.zeroValue109
  t139 := Tryd.underlying110
  a139 := Tryd.isAgg110
  z139 := Tryd.sizeOf110
  v139 := Tryd.zeroValue110
  t146 := Tryd.underlying111
  a146 := Tryd.isAgg111
  z146 := Tryd.sizeOf111
  v146 := Tryd.zeroValue111
  g1 := by kernel_rfl
  g3 := by kernel_rfl
  g4 := by kernel_rfl }
def Tryd.lays146_ren : Go.Shelf.Ren := ⟨fun | 146 => 44 | 221 => 61 | 268 => 68 | 138 => 69 | 143 => 70 | 195 => 72 | 197 => 73 | 218 => 74 | 219 => 75 | 260 => 80 | 217 => 81 | 225 => 82 | 224 => 83 | 267 => 84 | 266 => 90 | 314 => 91 | n => n, fun | 9 => 9 | 31 => 64 | 3 => 3 | 4 => 4 | 0 => 0 | 105 => 91 | 21 => 21 | 5 => 5 | 46 => 100 | 119 => 107 | 139 => 110 | 138 => 109 | 146 => 111 | 51 => 103 | n => n, fun | 1 => 0 | 3 => 2 | 4 => 3 | n => n⟩
theorem Tryd.lays146 : Go.Proofs.Lays.n146 Tryd.prog Tryd.lays146_ren := {
  mixed := by kernel_rfl
  f138 := Tryd.func69.trans (congrArg some (by kernel_rfl))
  f143 := Tryd.func70.trans (congrArg some (by kernel_rfl))
  f146 := Tryd.func44.trans (congrArg some (by kernel_rfl))
  f195 := Tryd.func72.trans (congrArg some (by kernel_rfl))
  f197 := Tryd.func73.trans (congrArg some (by kernel_rfl))
  f217 := Tryd.func81.trans (congrArg some (by kernel_rfl))
  f218 := Tryd.func74.trans (congrArg some (by kernel_rfl))
  f219 := Tryd.func75.trans (congrArg some (by kernel_rfl))
  f221 := Tryd.func61.trans (congrArg some (by kernel_rfl))
  f224 := Tryd.func83.trans (congrArg some (by kernel_rfl))
  f225 := Tryd.func82.trans (congrArg some (by kernel_rfl))
  f260 := Tryd.func80.trans (congrArg some (by kernel_rfl))
  f266 := Tryd.func90.trans (congrArg some (by kernel_rfl))
  f267 := Tryd.func84.trans (congrArg some (by kernel_rfl))
  f268 := Tryd.func68.trans (congrArg some (by kernel_rfl))
  f314 := Tryd.func91.trans (congrArg some (by kernel_rfl))
  t0 := Tryd.underlying0
  a0 := Tryd.isAgg0
  z0 := Tryd.sizeOf0
  v0 := Tryd.zeroValue0
  t3 := Tryd.underlying3
  a3 := Tryd.isAgg3
  z3 := Tryd.sizeOf3
  v3 := Tryd.zeroValue3
  t4 := Tryd.underlying4
  a4 := Tryd.isAgg4
  z4 := Tryd.sizeOf4
  v4 := Tryd.zeroValue4
  t5 := Tryd.underlying5
  a5 := Tryd.isAgg5
  z5 := Tryd.sizeOf5
  v5 := Tryd.zeroValue5
  t9 := Tryd.underlying9
  a9 := Tryd.isAgg9
  z9 := Tryd.sizeOf9
  v9 := Tryd.zeroValue9
  t21 := Tryd.underlying21
  a21 := Tryd.isAgg21
  z21 := Tryd.sizeOf21
  v21 := Tryd.zeroValue21
  t31 := Tryd.underlying64
  a31 := Tryd.isAgg64
  z31 := Tryd.sizeOf64
  v31 := Tryd.zeroValue64
  t46 := Tryd.underlying100
  a46 := Tryd.isAgg100
  z46 := Tryd.sizeOf100
  v46 := Tryd.zeroValue100
  t51 := Tryd.underlying103
  a51 := Tryd.isAgg103
  z51 := Tryd.sizeOf103
  v51 := Tryd.zeroValue103
  t105 := Tryd.underlying91
  a105 := Tryd.isAgg91
  z105 := Tryd.sizeOf91
  v105 := Tryd.zeroValue91
  t119 := Tryd.underlying107
  a119 := Tryd.isAgg107
  z119 := Tryd.sizeOf107
  t138 := Tryd.underlying109
  a138 := Tryd.isAgg109
  z138 := Tryd.sizeOf109
  v138 := Tryd.zeroValue109
  t139 := Tryd.underlying110
  a139 := Tryd.isAgg110
  z139 := Tryd.sizeOf110
  v139 := Tryd.zeroValue110
  t146 := Tryd.underlying111
  a146 := Tryd.isAgg111
  z146 := Tryd.sizeOf111
  v146 := Tryd.zeroValue111
  g1 := by kernel_rfl
  g3 := by kernel_rfl
  g4 := by kernel_rfl }
end Go.Proofs
namespace Go.Proofs.YtdacpdhpifocbaaDoor.Ch
open Go.Shelf Go.RowKit
theorem below_dN {B : Nat} {a w : World} (h : Below B a w) (n : Nat) : Below B a (w.drewN n) := ⟨h.os, h.tape, h.output, h.size, h.block⟩
def dg1 (x : Nat) : Array UInt8 := #[UInt8.ofNat (48 + x)]
theorem dg1_size (x : Nat) : (dg1 x).size = 1 := rfl
theorem itoa1 (x : Nat) (hx : x < 10) (w : World) : Calls Tryd.prog 56 #[.int .i64 x] w fun e w' => e = .returned (.string ⟨dg1 x⟩) ∧ w' = w := by
  have := Tryd.strconv_Itoa_small x (by omega) w
  rw [Lib.decDigits_one hx] at this
  exact this
def lineL (i x y : Nat) : List UInt8 := [71, if i = 0 then 48 else 49, 32, 88, UInt8.ofNat (48 + x), 32, 89, UInt8.ofNat (48 + y), 10]
theorem line_eq (i x y : Nat) (a : UInt8) (h : a = if i = 0 then 48 else 49) : (⟨#[71, a]⟩ ++ ⟨#[32, 88]⟩ ++ ⟨dg1 x⟩ ++ ⟨#[32, 89]⟩ ++ ⟨dg1 y⟩ ++ ⟨#[10]⟩ : ByteArray) = ⟨(lineL i x y).toArray⟩ := by
  subst h
  apply ByteArray.ext
  simp [ByteArray.data_append, lineL, dg1]
set_option maxHeartbeats 1000000 in
set_option maxRecDepth 100000 in
theorem codeLine (i x y : Nat) (hi : i < 1000) (hx : x < 10) (hy : y < 10) (w : World) :
    Calls Tryd.prog 31 #[.int .i64 i, .agg #[.int .i64 x, .int .i64 y]] w fun e w' => e = .returned (.string ⟨(lineL i x y).toArray⟩) ∧ Below w.heap.size w w' := by
  have e1 := dg1_size x
  have e2 := dg1_size y
  by_cases h0 : i = 0
  · have E := line_eq i x y 48 (by rw [if_pos h0])
    subst h0
    have H := Lib.hid E
    clear E
    go_enter Tryd.func31, Tryd.ntmps31
    go_wp2
    go_quiet ((go_at_call 56; exact Calls.quiet_of_same (itoa1 _ (by omega) _)))
    go_wp2
    go_ret
    refine ⟨?_, below_dN ((Below.refl _ w).alloc (Nat.le_refl _) _) _⟩
    show Ending.returned (.string _) = _
    rw [H.out]
  · have E := line_eq i x y 49 (by rw [if_neg h0])
    have H := Lib.hid E
    have hb : ((i : Int) == 0) = false := beq_eq_false_iff_ne.2 (by omega)
    clear E h0
    go_enter Tryd.func31, Tryd.ntmps31
    go_wp2
    go_quiet ((go_at_call 56; exact Calls.quiet_of_same (itoa1 _ (by omega) _)))
    go_wp2
    go_ret
    refine ⟨?_, below_dN ((Below.refl _ w).alloc (Nat.le_refl _) _) _⟩
    show Ending.returned (.string _) = _
    rw [H.out]
end Go.Proofs.YtdacpdhpifocbaaDoor.Ch
namespace Go.Proofs.YtdacpdhpifocbaaDoor.Ch
open Go.Conc Go.RowKit
def OpsTo (P : Program) (ops : Array Oper) (l : List Nat) (Q : Exit → Act → World → Prop) (a : Act) (w : World) : Prop :=
  ∀ (b : Frame) (k : List Item) (cs : List Frame), ∃ e a' w', Q e a' w' ∧ Arrives P (lone (b.at a (.inRegion ops l :: k)) cs w) b k cs e a' w'
section
variable {P : Program} {ops : Array Oper} {i : Nat} {rest : List Nat} {o : Oper} {Q : Exit → Act → World → Prop} {a : Act} {w w' : World}
theorem OpsTo.region {id : Nat} (h : OpsTo P ops (List.range ops.size) Q a w) : (Code.region id ops false).wp P Q a w :=
  fun b k cs => let ⟨e, a', w', q, r⟩ := h b k cs; ⟨e, a', w', q, .of_steps (.one step_region) r⟩
theorem OpsTo.nil (h : Q .normal a w) : OpsTo P ops [] Q a w := fun _ _ _ => ⟨.normal, a, w, h, .one step_region_end⟩
theorem fin_at (ho : ops[i]? = some o) (b : Frame) (k : List Item) (v : Value) : (b.at a (.inRegion ops (i :: rest) :: k)).finish v = b.at (a.put o.dst v) (.inRegion ops rest :: k) := by
  rw [Frame.finish_at, ho]; rfl
theorem OpsTo.value {v : Value} (ho : ops[i]? = some o) (hw : Region.wanted o (yielded ops a.tmps) = true) (hr : (execOp a.eval o).run P w = .ok (.value v) w')
    (h : OpsTo P ops rest Q (a.put o.dst v) w') : OpsTo P ops (i :: rest) Q a w := by
  intro b k cs
  obtain ⟨e, a', w₂, hq, harr⟩ := h b k cs
  refine ⟨e, a', w₂, hq, .of_steps (.one (step_lone_go ?_)) harr⟩
  rw [stepG_op ho hw, ← fin_at ho]; simp [stepG.apply, hr]
theorem OpsTo.skip (ho : ops[i]? = some o) (hw : Region.wanted o (yielded ops a.tmps) = true) (hr : (execOp a.eval o).run P w = .ok .skip w')
    (h : OpsTo P ops rest Q (a.put o.dst undef) w') : OpsTo P ops (i :: rest) Q a w := by
  intro b k cs
  obtain ⟨e, a', w₂, hq, harr⟩ := h b k cs
  refine ⟨e, a', w₂, hq, .of_steps (.one (step_lone_go ?_)) harr⟩
  rw [stepG_op ho hw, ← fin_at ho]; simp [stepG.apply, hr]
def uponK (K : Act → World → Prop) (a : Act) (o : Oper) : Result Next → Prop
  | .ok (.value v) w' => K (a.put o.dst v) w'
  | .ok .skip w' => K (a.put o.dst undef) w'
  | _ => False
@[simp] theorem uponK_value (K : Act → World → Prop) (a : Act) (o : Oper) (v : Value) (w : World) : uponK K a o (.ok (.value v) w) = K (a.put o.dst v) w := rfl
@[simp] theorem uponK_skip (K : Act → World → Prop) (a : Act) (o : Oper) (w : World) : uponK K a o (.ok .skip w) = K (a.put o.dst undef) w := rfl
theorem uponK_elim {K : Act → World → Prop} {a : Act} {o : Oper} {r : Result Next} (h : uponK K a o r) : (∃ v w', r = .ok (.value v) w' ∧ K (a.put o.dst v) w') ∨ (∃ w', r = .ok .skip w' ∧ K (a.put o.dst undef) w') := by
  cases r with
  | ok x w' =>
    cases x with
    | value v => exact .inl ⟨v, w', rfl, h⟩
    | skip => exact .inr ⟨w', rfl, h⟩
    | _ => exact h.elim
  | halt x w' => exact h.elim
theorem OpsTo.op (ho : ops[i]? = some o) (hw : Region.wanted o (yielded ops a.tmps) = true)
    (h : ∀ K : Act → World → Prop, (∀ a' w', OpsTo P ops rest Q a' w' → K a' w') → uponK K a o ((execOp a.eval o).run P w)) : OpsTo P ops (i :: rest) Q a w := by
  rcases uponK_elim (h (fun a' w' => OpsTo P ops rest Q a' w') (fun _ _ h => h)) with ⟨v, w', hr, h'⟩ | ⟨w', hr, h'⟩
  · exact OpsTo.value ho hw hr h'
  · exact OpsTo.skip ho hw hr h'
theorem OpsTo.call {f : FuncId} {args : Array Value} {R : Ending → World → Prop} (ho : ops[i]? = some o) (hw : Region.wanted o (yielded ops a.tmps) = true) (hr : (execOp a.eval o).run P w = .ok (.enter f args) w')
    (hc : Calls P f args w' R) (h : ∀ e w₂, R e w₂ → ∃ v, e = .returned v ∧ OpsTo P ops rest Q (a.put o.dst v) w₂) : OpsTo P ops (i :: rest) Q a w := by
  intro b k cs
  obtain ⟨e, w₂, fr, hR, hcomes, _, hleave⟩ := hc (b.at a (.inRegion ops (i :: rest) :: k) :: cs)
  obtain ⟨v, rfl, hK⟩ := h _ _ hR
  have henter : step P (lone (b.at a (.inRegion ops (i :: rest) :: k)) cs w) = .next (lone (Frame.enter P f args .normal) (b.at a (.inRegion ops (i :: rest) :: k) :: cs) w') :=
    step_lone_go (by rw [stepG_op ho hw]; simp [stepG.apply, hr, Frame.at])
  obtain ⟨e, a', w₃, hq, harr⟩ := hK b k cs
  refine ⟨e, a', w₃, hq, .of_steps (.head henter (Steps.trans hcomes (.one ?_))) harr⟩
  rw [← fin_at ho]; exact step_leave_returned hleave
theorem step_comm {cases : Array CommCase} {blocking : Bool} {shape : CommShape} (ho : ops[i]? = some o) (hw : Region.wanted o (yielded ops a.tmps) = true) (hr : (execOp a.eval o).run P w = .ok (.comm cases blocking shape) w')
    (b : Frame) (k : List Item) (cs : List Frame) : ∃ es, stepG P true (G (b.at a (.inRegion ops (i :: rest) :: k)) cs) w = .comm (G (b.at a (.inRegion ops (i :: rest) :: k)) cs) cases blocking shape w' es := by
  unfold G
  rw [stepG_op ho hw]
  exact ⟨_, by simp only [stepG.apply, Sem.runT_eq, hr, if_true, GStep.after]; rfl⟩
theorem OpsTo.send {c cap s r : Nat} {buf : Array Value} {z v : Value} {tm : Bool} (ho : ops[i]? = some o) (hw : Region.wanted o (yielded ops a.tmps) = true)
    (hr : (execOp a.eval o).run P w = .ok (.comm #[scase c v z] true .send) w') (hc : w'.heap[c]? = some (.chan cap buf false s r tm)) (hroom : buf.size < cap)
    (h : OpsTo P ops rest Q (a.put o.dst undef) (w'.setChan c cap (buf.push v) false (s + 1) r tm)) : OpsTo P ops (i :: rest) Q a w := by
  intro b k cs
  obtain ⟨es, hs⟩ := step_comm (rest := rest) ho hw hr b k cs
  obtain ⟨e, a', w₂, hq, harr⟩ := h b k cs
  refine ⟨e, a', w₂, hq, .of_steps (.one ?_) harr⟩
  rw [lone_eq_solo, step_lone_send_room hs hc hroom, fin_at ho]; rfl
theorem OpsTo.recv {c cap s r : Nat} {buf : Array Value} {z : Value} {tm closed ok : Bool} (ho : ops[i]? = some o) (hw : Region.wanted o (yielded ops a.tmps) = true)
    (hr : (execOp a.eval o).run P w = .ok (.comm #[rcase c z] true (.recv ok)) w') (hc : w'.heap[c]? = some (.chan cap buf closed s r tm)) (hsome : 0 < buf.size)
    (h : OpsTo P ops rest Q (a.put o.dst (got ok (buf.getD 0 undef) true)) (w'.setChan c cap (buf.extract 1 buf.size) closed s (r + 1) tm)) : OpsTo P ops (i :: rest) Q a w := by
  intro b k cs
  obtain ⟨es, hs⟩ := step_comm (rest := rest) ho hw hr b k cs
  obtain ⟨e, a', w₂, hq, harr⟩ := h b k cs
  refine ⟨e, a', w₂, hq, .of_steps (.one ?_) harr⟩
  rw [lone_eq_solo, step_lone_recv_buf ok hs hc hsome, fin_at ho]; rfl
theorem OpsTo.recvShut {c cap s r : Nat} {z : Value} {tm ok : Bool} (ho : ops[i]? = some o) (hw : Region.wanted o (yielded ops a.tmps) = true)
    (hr : (execOp a.eval o).run P w = .ok (.comm #[rcase c z] true (.recv ok)) w') (hc : w'.heap[c]? = some (.chan cap #[] true s r tm))
    (h : OpsTo P ops rest Q (a.put o.dst (got ok z false)) w') : OpsTo P ops (i :: rest) Q a w := by
  intro b k cs
  obtain ⟨es, hs⟩ := step_comm (rest := rest) ho hw hr b k cs
  obtain ⟨e, a', w₂, hq, harr⟩ := h b k cs
  refine ⟨e, a', w₂, hq, .of_steps (.one ?_) harr⟩
  rw [lone_eq_solo, step_lone_recv_shut ok hs hc, fin_at ho]; rfl
end
end Go.Proofs.YtdacpdhpifocbaaDoor.Ch
namespace Go.Proofs.YtdacpdhpifocbaaDoor.P
open Go.RowKit Go.Proofs.YtdacpdhpifocbaaDoorW.PrintWords Go.Proofs.YtdacpdhpifocbaaDoorW.PrintLast Go.Proofs.YtdacpdhpifocbaaDoorW.PrintMore
attribute [local go_sem] max2_int min2_int max_two min_two max_three min_three max_four min_four
set_option linter.unusedVariables false
set_option linter.unusedSimpArgs false
def impl_PtOk.f (a0_0 : Int) (a0_1 : Int) : Option (Bool) := if a0_0 ≥ 0 then (if a0_0 ≤ 9 then (if a0_1 ≥ 0 then (some (decide (a0_1 ≤ 9))) else (some false)) else (some false)) else (some false)
set_option maxHeartbeats 8000000 in
set_option maxRecDepth 100000 in
theorem impl_PtOk.calls (a0_0 : Int) (a0_1 : Int) (r : Bool) (w : World) (h : impl_PtOk.f a0_0 a0_1 = some r) :
  Calls Tryd.prog 40 #[.agg #[.int .i64 a0_0, .int .i64 a0_1]] w fun e w' => e = .returned (.bool r) ∧ Below w.heap.size w w' := by
 have hu35 := Tryd.underlying35; have HB := Aside0.mk (Below.refl w.heap.size w); have H : (if a0_0 ≥ 0 then (if a0_0 ≤ 9 then (if a0_1 ≥ 0 then (some (decide (a0_1 ≤ 9))) else (some false)) else (some false)) else (some false)) = some r := h; clear h
 by_cases c2 : a0_0 ≥ 0
 ·rw [if_pos c2] at H
  have c2b0 : decide (0 ≤ a0_0) = true := decide_eq_true c2; clear c2
  by_cases c3 : a0_0 ≤ 9
  ·rw [if_pos c3] at H
   have c3b0 : decide (a0_0 ≤ 9) = true := decide_eq_true c3; clear c3
   by_cases c4 : a0_1 ≥ 0
   ·rw [if_pos c4] at H
    have c4b0 : decide (0 ≤ a0_1) = true := decide_eq_true c4; clear c4; obtain rfl := Option.some.inj H; go_enter Tryd.func40, Tryd.ntmps40; go_wp2_with (first | ((with_reducible refine gate_dst (N := 1) rfl ?_); refine box_event ?hg (N := 1) ?hd (cs := #[.int .i64 a0_0, .int .i64 a0_1]) (t := 35) ?hr ?_; (case hd => rfl); (case hg => rfl); (case hr => first | (go_simp; done) | (go_simp; rfl)); intro gb101 hg w5 hbox hb; have n0_ := Aside0.mk (below_step (bC0 HB) hb); have n1_ := Aside0.mk (hbox); have n2_ := Aside0.mk ((by rw [hg]; exact (below_size (bC0 HB)) : w.heap.size ≤ gb101)); have n3_ := Aside0.mk ((by rw [hg]; exact (below_size (bC0 HB)) : w.heap.size ≤ gb101)); clear HB; have HB := n0_; have BK101 := n1_; have GW101 := n2_; have GE101 := n3_; clear n0_ n1_ n2_ n3_; clear hb hbox hg; have hcz6_0 : w5.cell? ⟨gb101, 0, none⟩ = some (.int .i64 a0_0) := (blk_cell BK101.out 0).trans rfl; have hcz6_1 : w5.cell? ⟨gb101, 1, none⟩ = some (.int .i64 a0_1) := (blk_cell BK101.out 1).trans rfl; have hfz6_0 := blk_frozen BK101.out 0; have hfz6_1 := blk_frozen BK101.out 1)); go_ret
    exact ⟨bE, (bC1 HB GE101.out)⟩
   ·rw [if_neg c4] at H
    have c4b0 : decide (0 ≤ a0_1) = false := decide_eq_false c4; clear c4; obtain rfl := Option.some.inj H; go_enter Tryd.func40, Tryd.ntmps40; go_wp2_with (first | ((with_reducible refine gate_dst (N := 1) rfl ?_); refine box_event ?hg (N := 1) ?hd (cs := #[.int .i64 a0_0, .int .i64 a0_1]) (t := 35) ?hr ?_; (case hd => rfl); (case hg => rfl); (case hr => first | (go_simp; done) | (go_simp; rfl)); intro gb101 hg w7 hbox hb; have n0_ := Aside0.mk (below_step (bC0 HB) hb); have n1_ := Aside0.mk (hbox); have n2_ := Aside0.mk ((by rw [hg]; exact (below_size (bC0 HB)) : w.heap.size ≤ gb101)); have n3_ := Aside0.mk ((by rw [hg]; exact (below_size (bC0 HB)) : w.heap.size ≤ gb101)); clear HB; have HB := n0_; have BK101 := n1_; have GW101 := n2_; have GE101 := n3_; clear n0_ n1_ n2_ n3_; clear hb hbox hg; have hcz8_0 : w7.cell? ⟨gb101, 0, none⟩ = some (.int .i64 a0_0) := (blk_cell BK101.out 0).trans rfl; have hcz8_1 : w7.cell? ⟨gb101, 1, none⟩ = some (.int .i64 a0_1) := (blk_cell BK101.out 1).trans rfl; have hfz8_0 := blk_frozen BK101.out 0; have hfz8_1 := blk_frozen BK101.out 1)); go_ret
    exact ⟨bE, (bC1 HB GE101.out)⟩
  ·rw [if_neg c3] at H
   have c3b0 : decide (a0_0 ≤ 9) = false := decide_eq_false c3; clear c3; obtain rfl := Option.some.inj H; go_enter Tryd.func40, Tryd.ntmps40; go_wp2_with (first | ((with_reducible refine gate_dst (N := 1) rfl ?_); refine box_event ?hg (N := 1) ?hd (cs := #[.int .i64 a0_0, .int .i64 a0_1]) (t := 35) ?hr ?_; (case hd => rfl); (case hg => rfl); (case hr => first | (go_simp; done) | (go_simp; rfl)); intro gb101 hg w9 hbox hb; have n0_ := Aside0.mk (below_step (bC0 HB) hb); have n1_ := Aside0.mk (hbox); have n2_ := Aside0.mk ((by rw [hg]; exact (below_size (bC0 HB)) : w.heap.size ≤ gb101)); have n3_ := Aside0.mk ((by rw [hg]; exact (below_size (bC0 HB)) : w.heap.size ≤ gb101)); clear HB; have HB := n0_; have BK101 := n1_; have GW101 := n2_; have GE101 := n3_; clear n0_ n1_ n2_ n3_; clear hb hbox hg; have hcz10_0 : w9.cell? ⟨gb101, 0, none⟩ = some (.int .i64 a0_0) := (blk_cell BK101.out 0).trans rfl; have hcz10_1 : w9.cell? ⟨gb101, 1, none⟩ = some (.int .i64 a0_1) := (blk_cell BK101.out 1).trans rfl; have hfz10_0 := blk_frozen BK101.out 0; have hfz10_1 := blk_frozen BK101.out 1)); go_ret
   exact ⟨bE, (bC1 HB GE101.out)⟩
 ·rw [if_neg c2] at H
  have c2b0 : decide (0 ≤ a0_0) = false := decide_eq_false c2; clear c2; obtain rfl := Option.some.inj H; go_enter Tryd.func40, Tryd.ntmps40; go_wp2_with (first | ((with_reducible refine gate_dst (N := 1) rfl ?_); refine box_event ?hg (N := 1) ?hd (cs := #[.int .i64 a0_0, .int .i64 a0_1]) (t := 35) ?hr ?_; (case hd => rfl); (case hg => rfl); (case hr => first | (go_simp; done) | (go_simp; rfl)); intro gb101 hg w11 hbox hb; have n0_ := Aside0.mk (below_step (bC0 HB) hb); have n1_ := Aside0.mk (hbox); have n2_ := Aside0.mk ((by rw [hg]; exact (below_size (bC0 HB)) : w.heap.size ≤ gb101)); have n3_ := Aside0.mk ((by rw [hg]; exact (below_size (bC0 HB)) : w.heap.size ≤ gb101)); clear HB; have HB := n0_; have BK101 := n1_; have GW101 := n2_; have GE101 := n3_; clear n0_ n1_ n2_ n3_; clear hb hbox hg; have hcz12_0 : w11.cell? ⟨gb101, 0, none⟩ = some (.int .i64 a0_0) := (blk_cell BK101.out 0).trans rfl; have hcz12_1 : w11.cell? ⟨gb101, 1, none⟩ = some (.int .i64 a0_1) := (blk_cell BK101.out 1).trans rfl; have hfz12_0 := blk_frozen BK101.out 0; have hfz12_1 := blk_frozen BK101.out 1)); go_ret
  exact ⟨bE, (bC1 HB GE101.out)⟩
set_option linter.unusedVariables false
set_option linter.unusedSimpArgs false
theorem eqA35 (d : Nat) (w : World) (x0 y0 : Int) (x1 y1 : Int) :
    (Op.equalIn (d + 2) 35 (.agg #[.int .i64 x0, .int .i64 x1]) (.agg #[.int .i64 y0, .int .i64 y1])).run Tryd.prog w = .ok (x0 == y0 && (x1 == y1)) w := by
  refine eqA_of Tryd.underlying35 (by kernel_rfl) ?_
  refine eqf_cons (by rfl) (by go_simp; rfl) (by go_simp; rfl) (by go_simp) ?_
  exact eqf_last (by rfl) (by go_simp; rfl) (by go_simp; rfl) (by go_simp)
set_option linter.unusedVariables false
set_option linter.unusedSimpArgs false
attribute [local go_sem high] eqA35
theorem impl_stepsFrom.calls (x y : Int) (w : World) :
  Calls Tryd.prog 67 #[.agg #[.int .i64 x, .int .i64 y]] w fun e w' => e = .returned (.agg #[.int .i64 (wrap64 (x + 1)), .int .i64 y, .int .i64 x, .int .i64 (wrap64 (y + 1)), .int .i64 (wrap64 (x - 1)), .int .i64 y, .int .i64 x, .int .i64 (wrap64 (y - 1))]) ∧ Below w.heap.size w w' := by
 go_enter Tryd.func67, Tryd.ntmps67; go_wp2
 exact bodyPost_ret (v := .agg #[.int .i64 (wrap64 (x + 1)), .int .i64 y, .int .i64 x, .int .i64 (wrap64 (y + 1)), .int .i64 (wrap64 (x - 1)), .int .i64 y, .int .i64 x, .int .i64 (wrap64 (y - 1))]) (by simp [results, Tryd.results67, go_sem]) rfl ⟨rfl, ((Below.refl _ _).alloc (by simp) _).alloc (by simp) _⟩
theorem bcell {W w1 : World} (hb : Below W.heap.size W w1) : (∀ b o, b < W.heap.size → w1.cell? ⟨b, o, none⟩ = W.cell? ⟨b, o, none⟩) ∧ (∀ b o, b < W.heap.size → w1.frozen? ⟨b, o, none⟩ = W.frozen? ⟨b, o, none⟩) :=
 ⟨fun b o h => hb.cell (p := ⟨b, o, none⟩) h, fun b o h => hb.frozen (p := ⟨b, o, none⟩) h⟩
def impl_isStep.f (a0_0 a0_1 a1_0 a1_1 : Int) : Option Bool := some ((wrap64 (a0_0 + 1) == a1_0 && a0_1 == a1_1) || ((a0_0 == a1_0 && wrap64 (a0_1 + 1) == a1_1) || ((wrap64 (a0_0 - 1) == a1_0 && a0_1 == a1_1) || (a0_0 == a1_0 && wrap64 (a0_1 - 1) == a1_1))))
theorem impl_isStep.end1 {a b c d : Int} {r : Bool} (h : impl_isStep.f a b c d = some r) (h1 : (wrap64 (a + 1) == c) = true ∧ (b == d) = true) : Ending.returned (.bool true) = .returned (.bool r) := by
 obtain rfl := Option.some.inj h; simp only [h1.1, h1.2, Bool.and_self, Bool.true_or]
theorem impl_isStep.end2 {a b c d : Int} {r : Bool} (h : impl_isStep.f a b c d = some r) (h1 : (a == c) = true ∧ (wrap64 (b + 1) == d) = true) : Ending.returned (.bool true) = .returned (.bool r) := by
 obtain rfl := Option.some.inj h; simp only [h1.1, h1.2, Bool.and_self, Bool.true_or, Bool.or_true]
theorem impl_isStep.end3 {a b c d : Int} {r : Bool} (h : impl_isStep.f a b c d = some r) (h1 : (wrap64 (a - 1) == c) = true ∧ (b == d) = true) : Ending.returned (.bool true) = .returned (.bool r) := by
 obtain rfl := Option.some.inj h; simp only [h1.1, h1.2, Bool.and_self, Bool.true_or, Bool.or_true]
theorem impl_isStep.end4 {a b c d : Int} {r : Bool} (h : impl_isStep.f a b c d = some r) (h1 : (a == c) = true ∧ (wrap64 (b - 1) == d) = true) : Ending.returned (.bool true) = .returned (.bool r) := by
 obtain rfl := Option.some.inj h; simp only [h1.1, h1.2, Bool.and_self, Bool.true_or, Bool.or_true]
theorem impl_isStep.end5 {a b c d : Int} {r : Bool} (h : impl_isStep.f a b c d = some r) (h1 : (wrap64 (a + 1) == c) = false ∨ (b == d) = false) (h2 : (a == c) = false ∨ (wrap64 (b + 1) == d) = false)
  (h3 : (wrap64 (a - 1) == c) = false ∨ (b == d) = false) (h4 : (a == c) = false ∨ (wrap64 (b - 1) == d) = false) : Ending.returned (.bool false) = .returned (.bool r) := by
 obtain rfl := Option.some.inj h
 rw [show (wrap64 (a + 1) == c && b == d) = false by rcases h1 with h | h <;> simp [h], show (a == c && wrap64 (b + 1) == d) = false by rcases h2 with h | h <;> simp [h],
  show (wrap64 (a - 1) == c && b == d) = false by rcases h3 with h | h <;> simp [h], show (a == c && wrap64 (b - 1) == d) = false by rcases h4 with h | h <;> simp [h]]
 rfl
set_option maxHeartbeats 400000 in
theorem impl_isStep.calls (a0_0 a0_1 a1_0 a1_1 : Int) (r : Bool) (w : World) (h : impl_isStep.f a0_0 a0_1 a1_0 a1_1 = some r) :
  Calls Tryd.prog 59 #[.agg #[.int .i64 a0_0, .int .i64 a0_1], .agg #[.int .i64 a1_0, .int .i64 a1_1]] w fun e w' => e = .returned (.bool r) ∧ Below w.heap.size w w' := by
 have H := Aside0.mk h; clear h
 have ix : ∀ (x0 y0 x1 y1 x2 y2 x3 y3 : Int) (w : World), (Instr.index 85 (.agg #[.int .i64 x0, .int .i64 y0, .int .i64 x1, .int .i64 y1, .int .i64 x2, .int .i64 y2, .int .i64 x3, .int .i64 y3]) (.int .i64 0)).run Tryd.prog w = .ok (.agg #[.int .i64 x0, .int .i64 y0]) w := fun _ _ _ _ _ _ _ _ _ => by kernel_rfl
 have ix1 : ∀ (x0 y0 x1 y1 x2 y2 x3 y3 : Int) (w : World), (Instr.index 85 (.agg #[.int .i64 x0, .int .i64 y0, .int .i64 x1, .int .i64 y1, .int .i64 x2, .int .i64 y2, .int .i64 x3, .int .i64 y3]) (.int .i64 1)).run Tryd.prog w = .ok (.agg #[.int .i64 x1, .int .i64 y1]) w := fun _ _ _ _ _ _ _ _ _ => by kernel_rfl
 have ix2 : ∀ (x0 y0 x1 y1 x2 y2 x3 y3 : Int) (w : World), (Instr.index 85 (.agg #[.int .i64 x0, .int .i64 y0, .int .i64 x1, .int .i64 y1, .int .i64 x2, .int .i64 y2, .int .i64 x3, .int .i64 y3]) (.int .i64 2)).run Tryd.prog w = .ok (.agg #[.int .i64 x2, .int .i64 y2]) w := fun _ _ _ _ _ _ _ _ _ => by kernel_rfl
 have ix3 : ∀ (x0 y0 x1 y1 x2 y2 x3 y3 : Int) (w : World), (Instr.index 85 (.agg #[.int .i64 x0, .int .i64 y0, .int .i64 x1, .int .i64 y1, .int .i64 x2, .int .i64 y2, .int .i64 x3, .int .i64 y3]) (.int .i64 3)).run Tryd.prog w = .ok (.agg #[.int .i64 x3, .int .i64 y3]) w := fun _ _ _ _ _ _ _ _ _ => by kernel_rfl
 go_enter Tryd.func59, Tryd.ntmps59; go_wp2_with (go_at_call 67; refine (impl_stepsFrom.calls _ _ _).mono ?_; rintro e w1 ⟨rfl, hb⟩); have HB := Aside0.mk (below_then (((Below.refl w.heap.size w).alloc (Nat.le_refl _) _).alloc (by simp) _) (by simp <;> omega) hb); obtain ⟨hc, hf⟩ := bcell hb
 have hz : w.heap.size + 1 < w1.heap.size := by have := hb.size; simp at this; omega
 have hz0 : w.heap.size < w1.heap.size := by omega
 have hz1 : w.heap.size < w1.heap.size + 1 := by omega
 have hz2 : w.heap.size < w1.heap.size + 1 + 1 := by omega
 go_rounds 5
 all_goals
  go_ret; refine ⟨by first | exact impl_isStep.end1 H.out ‹_› | exact impl_isStep.end2 H.out ‹_› | exact impl_isStep.end3 H.out ‹_› | exact impl_isStep.end4 H.out ‹_› | exact impl_isStep.end5 H.out ‹_› ‹_› ‹_› ‹_›, ?_⟩
  repeat (first | exact HB.out | apply below_alloc)
set_option linter.unusedVariables false
set_option linter.unusedSimpArgs false
mutual
def impl_isPath.j0 : Nat → List (S35) → Bool → Option (Bool)
  | 0, _, _ => none
  | k + 1, x0, x12 => if x12 = true then (some false) else (impl_isPath.l0 k x0 x0 (x0.length : Int) 0)
def impl_isPath.l0 : Nat → List (S35) → List (S35) → Int → Int → Option (Bool)
  | 0, _, _, _, _ => none
  | k + 1, x0, x13, x14, x15 => if x15 < x14 then (if 0 ≤ x15 then (if x15 < (x13.length : Int) then ((impl_PtOk.f ((rd_T35 x13 x15).f0) ((rd_T35 x13 x15).f1)).bind fun t103 => (if t103 = true then (if x15 > 0 then (if 0 ≤ (wrap64 (x15 - 1)) then (if (wrap64 (x15 - 1)) < (x0.length : Int) then ((impl_isStep.f ((rd_T35 x0 (wrap64 (x15 - 1))).f0) ((rd_T35 x0 (wrap64 (x15 - 1))).f1) ((rd_T35 x13 x15).f0) ((rd_T35 x13 x15).f1)).bind fun t105 => (if t105 = true then (impl_isPath.l0 k x0 x13 x14 (wrap64 (x15 + 1))) else (some false))) else (none)) else (none)) else (impl_isPath.l0 k x0 x13 x14 (wrap64 (x15 + 1)))) else (some false))) else (none)) else (none)) else (some true)
end
def impl_isPath.f (k : Nat) (l0 : List (S35)) : Option (Bool) := if (l0.length : Int) < 1 then (impl_isPath.j0 k l0 true) else (impl_isPath.j0 k l0 (decide ((l0.length : Int) > 400)))
theorem impl_isPath.mono_l : ∀ k, (∀ y0 y1, LeO (impl_isPath.j0 k y0 y1) (impl_isPath.j0 (k + 1) y0 y1)) ∧ (∀ y0 y1 y2 y3, LeO (impl_isPath.l0 k y0 y1 y2 y3) (impl_isPath.l0 (k + 1) y0 y1 y2 y3))
  | 0 => ⟨fun _ _ r h => by simp [impl_isPath.j0] at h, fun _ _ _ _ r h => by simp [impl_isPath.l0] at h⟩
  | k + 1 => by
    obtain ⟨ih0, ih1⟩ := impl_isPath.mono_l k
    refine ⟨?_, ?_⟩
    · intro y0 y1
      unfold impl_isPath.j0
      repeat' first
      | (with_reducible exact ih0 _ _)
      | (with_reducible exact ih1 _ _ _ _)
      | (with_reducible exact LeO.refl _)
      | (with_reducible exact LeO.none _)
      | (with_reducible refine LeO.ite ?_ ?_)
      | (with_reducible refine LeO.bind ?_ (fun _ => ?_))
      | exact ih0 _ _
      | exact ih1 _ _ _ _
      | exact LeO.none _
      | refine LeO.ite ?_ ?_
      | refine LeO.bind ?_ (fun _ => ?_)
    · intro y0 y1 y2 y3
      unfold impl_isPath.l0
      repeat' first
      | (with_reducible exact ih0 _ _)
      | (with_reducible exact ih1 _ _ _ _)
      | (with_reducible exact LeO.refl _)
      | (with_reducible exact LeO.none _)
      | (with_reducible refine LeO.ite ?_ ?_)
      | (with_reducible refine LeO.bind ?_ (fun _ => ?_))
      | exact ih0 _ _
      | exact ih1 _ _ _ _
      | exact LeO.none _
      | refine LeO.ite ?_ ?_
      | refine LeO.bind ?_ (fun _ => ?_)
theorem impl_isPath.mono : ∀ a0 k, LeO (impl_isPath.f k a0) (impl_isPath.f (k + 1) a0) := by
  intro a0 k
  obtain ⟨ih0, ih1⟩ := impl_isPath.mono_l k
  unfold impl_isPath.f
  repeat' first
      | (with_reducible exact ih0 _ _)
      | (with_reducible exact ih1 _ _ _ _)
      | (with_reducible exact LeO.refl _)
      | (with_reducible exact LeO.none _)
      | (with_reducible refine LeO.ite ?_ ?_)
      | (with_reducible refine LeO.bind ?_ (fun _ => ?_))
      | exact ih0 _ _
      | exact ih1 _ _ _ _
      | exact LeO.none _
      | refine LeO.ite ?_ ?_
      | refine LeO.bind ?_ (fun _ => ?_)
def impl_isPath.T6 : Bool × List (List Nat × List Nat) := (true, [([], []), ([0], [0]), ([1], [1]), ([2, 1], [2]), ([3], [3]), ([4, 3], [3, 4]), ([5, 3, 3], [3, 5]), ([6], [6]), ([6], [6]), ([8, 6], [6, 8]), ([7, 9, 6], [6, 7, 9]), ([10, 6], [6, 10]), ([6], [6]), ([11, 12, 6, 6], [6, 11, 12]), ([13, 6], [6, 13]), ([6, 14, 3], [3, 6, 14]), ([3, 15], [3, 15])])
def impl_isPath.B6 : List Nat := [0, 1, 3, 7, 15, 31, 63, 127, 127, 383, 1023, 2047, 127, 8191, 16383, 32767, 65535]
theorem impl_isPath.tab6 : rtab .any (opsOf Tryd.f42 6) = impl_isPath.T6 := by kernel_rfl
theorem impl_isPath.bits6 : waitsOk impl_isPath.T6.2 impl_isPath.B6 = true := by kernel_rfl
abbrev impl_isPath.y_ : Bool := true
abbrev impl_isPath.n_ : Bool := false
set_option maxHeartbeats 8000000 in
set_option maxRecDepth 100000 in
theorem impl_isPath.calls (k : Nat) (A0 : Option Addr) (c0 : Nat) (l0 : List (S35)) (r : Bool) (w : World) (hr0 : Kd.C k35 w A0 l0.length l0) (hc0 : l0.length ≤ c0) (h : impl_isPath.f k l0 = some r) :
  Calls Tryd.prog 42 #[.slice A0 l0.length c0] w fun e w' => e = .returned (.bool r) ∧ Below w.heap.size w w' := by
 have hu35 := Tryd.underlying35; have HR0 := Aside0.mk hr0; have HC0 := Aside0.mk hc0; clear hr0 hc0; have HB := Aside0.mk (Below.refl w.heap.size w); have H : (if (l0.length : Int) < 1 then (impl_isPath.j0 k l0 true) else (impl_isPath.j0 k l0 (decide ((l0.length : Int) > 400)))) = some r := h; clear h; have HC2 := Aside0.mk H; clear H; go_enter Tryd.func42, Tryd.ntmps42; go_upto_region 1 with (fail); go_cut [12] (fun v12 wc => ∃ (kq : Nat) (x12_1 : Bool), v12 = .bool x12_1 ∧ Aside0 (impl_isPath.j0 kq l0 x12_1 = some r) ∧ Aside0 (kq ≤ k) ∧ Aside0 (Below w.heap.size w wc))
 case first =>
  have H := HC2.out; clear HC2
  by_cases c3 : (l0.length : Int) < 1
  ·rw [if_pos c3] at H
   have c3b0 : decide ((l0.length : Int) < 1) = true := decide_eq_true c3; have c3b1 : decide (l0.length < 1) = true := decide_eq_true (by omega); clear c3; (first | rw [c3b0] | (simp only [i64_w, i32_w]; rw [c3b0]) | skip); have H' := Aside0.mk H; clear H; go_wp2; go_meet
   case rel => exact ⟨_, (true), (by first | rfl | (simp; done) | (simp [*]; done)), H', ⟨by first | omega | exact Nat.le_refl _⟩, ⟨(bC0 HB)⟩⟩
  ·rw [if_neg c3] at H
   have c3b0 : decide ((l0.length : Int) < 1) = false := decide_eq_false c3; have c3b1 : decide (l0.length < 1) = false := decide_eq_false (by omega); clear c3; (first | rw [c3b0] | (simp only [i64_w, i32_w]; rw [c3b0]) | skip); have H' := Aside0.mk H; clear H; go_wp2; go_meet
   case rel => exact ⟨_, (decide ((l0.length : Int) > 400)), (by first | rfl | (simp; done) | (simp [*]; done)), H', ⟨by first | omega | exact Nat.le_refl _⟩, ⟨(bC0 HB)⟩⟩
 case rest =>
  clear HC2
  try clear p2
  try clear c3
  try clear c3b0
  try clear c3b1
  obtain ⟨kq, x12_1, rfl, HA, HJ1, HB⟩ := hcut
  cases kq with
  | zero => exact absurd HA.out (by simp [impl_isPath.j0])
  | succ kj1 =>
   have H := HA.out; clear HA; simp only [impl_isPath.j0] at H
   by_cases c4 : x12_1 = true
   ·subst c4
    have H1 : (some false) = some r := by rw [if_pos rfl] at H; exact H
    clear H; have H := H1; clear H1; obtain rfl := Option.some.inj H; go_wp2; go_ret
    exact ⟨bE, (bC0 HB)⟩
   ·replace c4 := Bool.eq_false_iff.mpr c4
    subst c4
    have H1 : (impl_isPath.l0 kj1 l0 l0 (l0.length : Int) 0) = some r := by rw [if_neg (show ¬ (false = true) by decide)] at H; exact H
    clear H; have H := H1; clear H1; have H' := Aside0.mk H; clear H; go_wp2; go_loopg [15] kj1 (fun kq v15 w' => ∃ (x15_2 : Int), v15 = .int .i64 x15_2 ∧ Aside0 (impl_isPath.l0 kq l0 l0 (l0.length : Int) x15_2 = some r) ∧ Aside0 (kq ≤ kj1) ∧ Aside0 (Below w.heap.size w w'))
    case atStart => exact ⟨(0), (by first | rfl | (simp; done) | (simp [*]; done)), H', ⟨Nat.le_refl _⟩, ⟨(bC0 HB)⟩⟩
    case round =>
     clear H'
     try clear p2
     try clear c3
     try clear c3b0
     try clear c3b1
     try clear c4
     try clear p2
     obtain ⟨x15_2, rfl, HA, HK2, HB⟩ := hrel
     cases gk with
     | zero => exact absurd HA.out (by simp [impl_isPath.l0])
     | succ k2 =>
      have H := HA.out; clear HA; simp only [impl_isPath.l0] at H
      by_cases c5 : x15_2 < (l0.length : Int)
      ·rw [if_pos c5] at H
       have c5b0 : decide (x15_2 < (l0.length : Int)) = true := decide_eq_true c5; clear c5
       by_cases c6 : 0 ≤ x15_2
       ·rw [if_pos c6] at H
        have c6b0 : decide (0 ≤ x15_2) = true := decide_eq_true c6; clear c6
        by_cases c7 : x15_2 < (l0.length : Int)
        ·rw [if_pos c7] at H
         have c7b0 : decide (x15_2 < (l0.length : Int)) = true := decide_eq_true c7; clear c7; replace H := Option.bind_eq_some_iff.mp H; obtain ⟨t103, A80, H⟩ := H; replace H : (if t103 = true then (if x15_2 > 0 then (if 0 ≤ (wrap64 (x15_2 - 1)) then (if (wrap64 (x15_2 - 1)) < (l0.length : Int) then ((impl_isStep.f ((rd_T35 l0 (wrap64 (x15_2 - 1))).f0) ((rd_T35 l0 (wrap64 (x15_2 - 1))).f1) ((rd_T35 l0 x15_2).f0) ((rd_T35 l0 x15_2).f1)).bind fun t105 => (if t105 = true then (impl_isPath.l0 k2 l0 l0 (l0.length : Int) (wrap64 (x15_2 + 1))) else (some false))) else (none)) else (none)) else (impl_isPath.l0 k2 l0 l0 (l0.length : Int) (wrap64 (x15_2 + 1)))) else (some false)) = some r := H; have A8 := Aside0.mk A80; clear A80
         by_cases c9 : t103 = true
         ·subst c9
          have H1 : (if x15_2 > 0 then (if 0 ≤ (wrap64 (x15_2 - 1)) then (if (wrap64 (x15_2 - 1)) < (l0.length : Int) then ((impl_isStep.f ((rd_T35 l0 (wrap64 (x15_2 - 1))).f0) ((rd_T35 l0 (wrap64 (x15_2 - 1))).f1) ((rd_T35 l0 x15_2).f0) ((rd_T35 l0 x15_2).f1)).bind fun t105 => (if t105 = true then (impl_isPath.l0 k2 l0 l0 (l0.length : Int) (wrap64 (x15_2 + 1))) else (some false))) else (none)) else (none)) else (impl_isPath.l0 k2 l0 l0 (l0.length : Int) (wrap64 (x15_2 + 1)))) = some r := by rw [if_pos rfl] at H; exact H
          clear H; have H := H1; clear H1
          by_cases c10 : x15_2 > 0
          ·rw [if_pos c10] at H
           have c10b0 : decide (0 < x15_2) = true := decide_eq_true c10; clear c10; obtain ⟨ji11, hji11⟩ : ∃ j_ : Int, (wrap64 (x15_2 - 1)) = j_ := ⟨_, rfl⟩
           replace H : (if 0 ≤ (ji11) then (if (ji11) < (l0.length : Int) then ((impl_isStep.f ((rd_T35 l0 (ji11)).f0) ((rd_T35 l0 (ji11)).f1) ((rd_T35 l0 x15_2).f0) ((rd_T35 l0 x15_2).f1)).bind fun t105 => (if t105 = true then (impl_isPath.l0 k2 l0 l0 (l0.length : Int) (wrap64 (x15_2 + 1))) else (some false))) else (none)) else (none)) = some r := by first | (rw [hji11] at H; exact H) | (simp only [hji11] at H ⊢; exact H)
           (try rw [hji11] at A8); have hji11w : (IntKind.i64.wrap (x15_2 - 1)) = ji11 := (i64_w _).trans hji11
           by_cases c12 : 0 ≤ (ji11)
           ·rw [if_pos c12] at H
            have c12b0 : decide (0 ≤ (ji11)) = true := decide_eq_true c12; clear c12
            by_cases c13 : (ji11) < (l0.length : Int)
            ·rw [if_pos c13] at H
             have c13b0 : decide ((ji11) < (l0.length : Int)) = true := decide_eq_true c13; clear c13; replace H := Option.bind_eq_some_iff.mp H; obtain ⟨t105, A140, H⟩ := H; replace H : (if t105 = true then (impl_isPath.l0 k2 l0 l0 (l0.length : Int) (wrap64 (x15_2 + 1))) else (some false)) = some r := H; have A14 := Aside0.mk A140; clear A140
             by_cases c15 : t105 = true
             ·subst c15
              have H1 : (impl_isPath.l0 k2 l0 l0 (l0.length : Int) (wrap64 (x15_2 + 1))) = some r := by rw [if_pos rfl] at H; exact H
              clear H; have H := H1; clear H1; have H' := Aside0.mk H; clear H; have p101 : 0 ≤ (x15_2 : Int) := of_decide_eq_true bX; have q101 : x15_2 < (l0.length : Int) := of_decide_eq_true bX; obtain ⟨ad101, e101, hx101_0, hx101_1⟩ := at_T35 HR0.out x15_2 p101 q101
              cases e101
              replace hx101_0 := (HB.out.cell (World.block_lt_of_cell? w _ hx101_0)).trans hx101_0; replace hx101_1 := (HB.out.cell (World.block_lt_of_cell? w _ hx101_1)).trans hx101_1; replace p101 := eq_true p101; replace q101 := eq_true q101
              try go_wp2_with (first | ((with_reducible refine gate_dst (N := 4) rfl ?_); (try (refine gate_guard (by rfl) ?_; dsimp only)); refine box_event ?hg (N := 4) ?hd (cs := #[.int .i64 0, .int .i64 0]) (t := 35) ?hr ?_; (case hd => rfl); (case hg => rfl); (case hr => first | (go_simp; done) | (go_simp; rfl)); intro gb102 hg w16 hbox hb; have n0_ := Aside0.mk (below_step (bC0 HB) hb); have n1_ := Aside0.mk (hbox); have n2_ := Aside0.mk ((by rw [hg]; exact (below_size (bC0 HB)) : w.heap.size ≤ gb102)); have n3_ := Aside0.mk ((by rw [hg]; exact (below_size (bC0 HB)) : w.heap.size ≤ gb102)); clear HB; have HB := n0_; have BK102 := n1_; have GW102 := n2_; have GE102 := n3_; clear n0_ n1_ n2_ n3_; clear hb hbox hg; have hcz17_0 : w16.cell? ⟨gb102, 0, none⟩ = some (.int .i64 0) := (blk_cell BK102.out 0).trans rfl; have hcz17_1 : w16.cell? ⟨gb102, 1, none⟩ = some (.int .i64 0) := (blk_cell BK102.out 1).trans rfl; have hfz17_0 := blk_frozen BK102.out 0; have hfz17_1 := blk_frozen BK102.out 1))
              have n0_ : Aside0 (((w16.setCell ⟨gb102, 0, none⟩ (.int .i64 ((rd_T35 l0 x15_2).f0))).setCell ⟨gb102, 1, none⟩ (.int .i64 ((rd_T35 l0 x15_2).f1))).heap[gb102]? = some (.cells #[.int .i64 ((rd_T35 l0 x15_2).f0), .int .i64 ((rd_T35 l0 x15_2).f1)] 35 (0, 0))) := ⟨by (with_reducible repeat (first | refine blk_drewN ?_ _ | refine blk_drew ?_ | refine blk_alloc ?_ _)); refine blk_put (cs := #[.int .i64 ((rd_T35 l0 x15_2).f0), .int .i64 0]) ?_ 1 _ rfl; (with_reducible repeat (first | refine blk_drewN ?_ _ | refine blk_drew ?_ | refine blk_alloc ?_ _)); refine blk_put (cs := #[.int .i64 0, .int .i64 0]) ?_ 0 _ rfl; (with_reducible repeat (first | refine blk_drewN ?_ _ | refine blk_drew ?_ | refine blk_alloc ?_ _)); exact BK102.out⟩; have n1_ : Aside0 (Below w.heap.size w ((w16.setCell ⟨gb102, 0, none⟩ (.int .i64 ((rd_T35 l0 x15_2).f0))).setCell ⟨gb102, 1, none⟩ (.int .i64 ((rd_T35 l0 x15_2).f1)))) := ⟨(bC1 HB GE102.out)⟩; (try clear BK102); (try clear HB); generalize ((w16.setCell ⟨gb102, 0, none⟩ (.int .i64 ((rd_T35 l0 x15_2).f0))).setCell ⟨gb102, 1, none⟩ (.int .i64 ((rd_T35 l0 x15_2).f1))) = w18 at n0_ n1_ ⊢; have BK102 := n0_; have HB := n1_; clear n0_ n1_; have n0_ := Aside0.mk (blk_drew BK102.out); have n1_ := Aside0.mk (below_drew1 HB.out); clear BK102; clear HB; have BK102 := n0_; have HB := n1_; clear n0_ n1_; have p104 : 0 ≤ ((ji11) : Int) := of_decide_eq_true bX; have q104 : (ji11) < (l0.length : Int) := of_decide_eq_true bX; obtain ⟨ad104, e104, hx104_0, hx104_1⟩ := at_T35 HR0.out (ji11) p104 q104; have hw104_1 := hx104_1; have hw104_0 := hx104_0; obtain rfl : ad101 = ad104 := (by injection e104); replace hx104_0 := (HB.out.cell (World.block_lt_of_cell? w _ hx104_0)).trans hx104_0; replace hx104_1 := (HB.out.cell (World.block_lt_of_cell? w _ hx104_1)).trans hx104_1; replace p104 := eq_true p104; replace q104 := eq_true q104; refine start_ (n := 17) (S := fun w' => w'.cell? ⟨gb102, 0, none⟩ = some (.int .i64 ((rd_T35 l0 x15_2).f0)) ∧ w'.cell? ⟨gb102, 1, none⟩ = some (.int .i64 ((rd_T35 l0 x15_2).f1)) ∧ w'.cell? (ad101.add (((ji11)).toNat * 2)) = some (.int .i64 ((rd_T35 l0 (ji11)).f0)) ∧ w'.cell? ⟨(ad101.add (((ji11)).toNat * 2)).block, (ad101.add (((ji11)).toNat * 2)).off + 1, none⟩ = some (.int .i64 ((rd_T35 l0 (ji11)).f1))) (ds := []) #[n_,n_,n_,n_,n_,n_,n_,n_,n_,n_,n_,n_,n_,n_,n_,n_,n_] (by kernel_rfl) rfl rfl ⟨(blk_cell BK102.out 0).trans rfl, (blk_cell BK102.out 1).trans rfl, ((HB.out.cell (World.block_lt_of_cell? w _ hw104_0)).trans hw104_0), ((HB.out.cell (World.block_lt_of_cell? w _ hw104_1)).trans hw104_1)⟩ (fun hHeld => ?_); refine with_tabW impl_isPath.tab6 impl_isPath.bits6 (fun HT_ HW_ => ?_); generalize w18.drew = w19 at BK102 HB hx104_0 hx104_1 hHeld ⊢; refine take_ (i := 0) (N := some 20) (v := ?_) (a' := ?_) #[y_,n_,n_,n_,n_,n_,n_,n_,n_,n_,n_,n_,n_,n_,n_,n_,n_] rfl rfl (take_ofW HT_.out HW_.out (by kernel_rfl)) (fun _ _ _ h => h) (Or.inl ⟨by rfl, ?_⟩) hHeld ?_ ?_
              rotate_left
              ·rintro w' ⟨s0, s1, s2, s3⟩; go_simp; with_reducible rfl
              rotate_left
              ·simp only [Act.put, List.setIfInBounds_toArray, List.set_cons_zero, List.set_cons_succ, i64_w, i32_w]; rfl
              refine one_ (i := 1) (N := some 21) #[y_,y_,n_,n_,n_,n_,n_,n_,n_,n_,n_,n_,n_,n_,n_,n_,n_] rfl rfl (one_of HT_.out (by kernel_rfl)) (by decide) (fun K hK => ?_); refine goes_ Tryd.func40 (by kernel_rfl) rfl #[.agg #[.int .i64 ((rd_T35 l0 x15_2).f0), .int .i64 ((rd_T35 l0 x15_2).f1)]] (by rfl) rfl rfl bM ?_
              with_reducible refine (impl_PtOk.calls ((rd_T35 l0 x15_2).f0) ((rd_T35 l0 x15_2).f1) true _ A8.out).mono ?_
              rintro e w20 ⟨rfl, hb⟩; refine ⟨_, rfl, ?_⟩; have n0_ := Aside0.mk (blk_below (g := gb102) (o := .cells #[.int .i64 ((rd_T35 l0 x15_2).f0), .int .i64 ((rd_T35 l0 x15_2).f1)] 35 (0, 0)) (bA BK102) hb); have n1_ := Aside0.mk (below_step (bC1 HB GE102.out) hb); clear BK102; clear HB; have BK102 := n0_; have HB := n1_; clear n0_ n1_; (try clear hb); (try clear hb2); (try clear hk); (try clear hi); refine hK.out _ _ ⟨(blk_cell BK102.out 0).trans rfl, (blk_cell BK102.out 1).trans rfl, ((HB.out.cell (World.block_lt_of_cell? w _ hw104_0)).trans hw104_0), ((HB.out.cell (World.block_lt_of_cell? w _ hw104_1)).trans hw104_1)⟩ (fun hHeld => ?_); clear hK K; refine norm_ (a' := ?_) ?_ ?_
              rotate_left
              ·show Act.put _ (some 21) _ = _
               simp only [Act.put, List.setIfInBounds_toArray, List.set_cons_zero, List.set_cons_succ, i64_w, i32_w]; rfl
              refine pure_ (i := 2) (N := some 22) (v := ?_) (a' := ?_) #[y_,y_,y_,n_,n_,n_,n_,n_,n_,n_,n_,n_,n_,n_,n_,n_,n_] rfl rfl (any_of HT_.out (by kernel_rfl)) (fun _ _ _ h => h) (Or.inl ⟨by rfl, ?_⟩) ?_ ?_
              rotate_left
              ·intro w'; go_simp; with_reducible rfl
              rotate_left
              ·simp only [Act.put, List.setIfInBounds_toArray, List.set_cons_zero, List.set_cons_succ, i64_w, i32_w]; rfl
              refine pure_ (i := 3) (N := some 23) (v := ?_) (a' := ?_) #[y_,y_,y_,y_,n_,n_,n_,n_,n_,n_,n_,n_,n_,n_,n_,n_,n_] rfl rfl (any_of HT_.out (by kernel_rfl)) (fun _ _ _ h => h) (Or.inl ⟨by rfl, ?_⟩) ?_ ?_
              rotate_left
              ·intro w'; go_simp; with_reducible rfl
              rotate_left
              ·simp only [Act.put, List.setIfInBounds_toArray, List.set_cons_zero, List.set_cons_succ, i64_w, i32_w]; rfl
              refine pure_ (i := 4) (N := some 24) (v := ?_) (a' := ?_) #[y_,y_,y_,y_,y_,n_,n_,n_,n_,n_,n_,n_,n_,n_,n_,n_,n_] rfl rfl (any_of HT_.out (by kernel_rfl)) (fun _ _ _ h => h) (Or.inl ⟨by rfl, ?_⟩) ?_ ?_
              rotate_left
              ·intro w'; go_simp; with_reducible rfl
              rotate_left
              ·simp only [Act.put, List.setIfInBounds_toArray, List.set_cons_zero, List.set_cons_succ, i64_w, i32_w]; rfl
              refine pure_ (i := 5) (N := some 25) (v := ?_) (a' := ?_) #[y_,y_,y_,y_,y_,y_,n_,n_,n_,n_,n_,n_,n_,n_,n_,n_,n_] rfl rfl (any_of HT_.out (by kernel_rfl)) (fun _ _ _ h => h) (Or.inl ⟨by rfl, ?_⟩) ?_ ?_
              rotate_left
              ·intro w'; go_simp; with_reducible rfl
              rotate_left
              ·simp only [Act.put, List.setIfInBounds_toArray, List.set_cons_zero, List.set_cons_succ, i64_w, i32_w]; rfl
              refine pure_ (i := 6) (N := some 26) (v := ?_) (a' := ?_) #[y_,y_,y_,y_,y_,y_,y_,n_,n_,n_,n_,n_,n_,n_,n_,n_,n_] rfl rfl (any_of HT_.out (by kernel_rfl)) (fun _ _ _ h => h) (Or.inl ⟨by rfl, ?_⟩) ?_ ?_
              rotate_left
              ·intro w'; go_simp; with_reducible rfl
              rotate_left
              ·simp only [Act.put, List.setIfInBounds_toArray, List.set_cons_zero, List.set_cons_succ, i64_w, i32_w]; rfl
              refine pure_ (i := 7) (N := some 27) (v := ?_) (a' := ?_) #[y_,y_,y_,y_,y_,y_,y_,y_,n_,n_,n_,n_,n_,n_,n_,n_,n_] rfl rfl (any_of HT_.out (by kernel_rfl)) (fun _ _ _ h => h) (Or.inl ⟨by rfl, ?_⟩) ?_ ?_
              rotate_left
              ·intro w'; go_simp; with_reducible rfl
              rotate_left
              ·simp only [Act.put, List.setIfInBounds_toArray, List.set_cons_zero, List.set_cons_succ, i64_w, i32_w]; rfl
              refine pure_ (i := 8) (N := some 28) (v := ?_) (a' := ?_) #[y_,y_,y_,y_,y_,y_,y_,y_,y_,n_,n_,n_,n_,n_,n_,n_,n_] rfl rfl (any_of HT_.out (by kernel_rfl)) (fun _ _ _ h => h) (Or.inl ⟨by rfl, ?_⟩) ?_ ?_
              rotate_left
              ·intro w'; go_simp; with_reducible rfl
              rotate_left
              ·simp only [Act.put, List.setIfInBounds_toArray, List.set_cons_zero, List.set_cons_succ, i64_w, i32_w]; rfl
              refine pure_ (i := 9) (N := some 29) (v := ?_) (a' := ?_) #[y_,y_,y_,y_,y_,y_,y_,y_,y_,y_,n_,n_,n_,n_,n_,n_,n_] rfl rfl (any_of HT_.out (by kernel_rfl)) (fun _ _ _ h => h) (Or.inl ⟨by rfl, ?_⟩) ?_ ?_
              rotate_left
              ·intro w'; go_simp; with_reducible rfl
              rotate_left
              ·simp only [Act.put, List.setIfInBounds_toArray, List.set_cons_zero, List.set_cons_succ, i64_w, i32_w]; rfl
              refine pure_ (i := 10) (N := some 30) (v := ?_) (a' := ?_) #[y_,y_,y_,y_,y_,y_,y_,y_,y_,y_,y_,n_,n_,n_,n_,n_,n_] rfl rfl (any_of HT_.out (by kernel_rfl)) (fun _ _ _ h => h) (Or.inl ⟨by rfl, ?_⟩) ?_ ?_
              rotate_left
              ·intro w'; go_simp; with_reducible rfl
              rotate_left
              ·simp only [Act.put, List.setIfInBounds_toArray, List.set_cons_zero, List.set_cons_succ, i64_w, i32_w]; rfl
              refine take_ (i := 11) (N := some 31) (v := ?_) (a' := ?_) #[y_,y_,y_,y_,y_,y_,y_,y_,y_,y_,y_,y_,n_,n_,n_,n_,n_] rfl rfl (take_ofW HT_.out HW_.out (by kernel_rfl)) (fun _ _ _ h => h) (Or.inl ⟨by rfl, ?_⟩) hHeld ?_ ?_
              rotate_left
              ·rintro w' ⟨s0, s1, s2, s3⟩; go_simp; with_reducible rfl
              rotate_left
              ·simp only [Act.put, List.setIfInBounds_toArray, List.set_cons_zero, List.set_cons_succ, i64_w, i32_w]; rfl
              refine take_ (i := 12) (N := some 32) (v := ?_) (a' := ?_) #[y_,y_,y_,y_,y_,y_,y_,y_,y_,y_,y_,y_,y_,n_,n_,n_,n_] rfl rfl (take_ofW HT_.out HW_.out (by kernel_rfl)) (fun _ _ _ h => h) (Or.inl ⟨by rfl, ?_⟩) hHeld ?_ ?_
              rotate_left
              ·rintro w' ⟨s0, s1, s2, s3⟩; go_simp; with_reducible rfl
              rotate_left
              ·simp only [Act.put, List.setIfInBounds_toArray, List.set_cons_zero, List.set_cons_succ, i64_w, i32_w]; rfl
              refine one_ (i := 13) (N := some 33) #[y_,y_,y_,y_,y_,y_,y_,y_,y_,y_,y_,y_,y_,y_,n_,n_,n_] rfl rfl (one_of HT_.out (by kernel_rfl)) (by decide) (fun K hK => ?_); refine goes_ Tryd.func59 (by kernel_rfl) rfl #[.agg #[.int .i64 ((rd_T35 l0 (ji11)).f0), .int .i64 ((rd_T35 l0 (ji11)).f1)], .agg #[.int .i64 ((rd_T35 l0 x15_2).f0), .int .i64 ((rd_T35 l0 x15_2).f1)]] (by rfl) rfl rfl (by (try simp only [List.map_toArray, List.map_cons, List.map_nil]); first | done | (simp only [hji11]; rfl) | rfl | (simp only [List.length_drop, List.length_take]; rfl)) ?_
              with_reducible refine (impl_isStep.calls ((rd_T35 l0 (ji11)).f0) ((rd_T35 l0 (ji11)).f1) ((rd_T35 l0 x15_2).f0) ((rd_T35 l0 x15_2).f1) true _ A14.out).mono ?_
              rintro e w21 ⟨rfl, hb⟩; refine ⟨_, rfl, ?_⟩; have n0_ := Aside0.mk (blk_below (g := gb102) (o := .cells #[.int .i64 ((rd_T35 l0 x15_2).f0), .int .i64 ((rd_T35 l0 x15_2).f1)] 35 (0, 0)) (bA BK102) hb); have n1_ := Aside0.mk (below_step (bC1 HB GE102.out) hb); clear BK102; clear HB; have BK102 := n0_; have HB := n1_; clear n0_ n1_; (try clear hb); (try clear hb2); (try clear hk); (try clear hi); refine hK.out _ _ ⟨(blk_cell BK102.out 0).trans rfl, (blk_cell BK102.out 1).trans rfl, ((HB.out.cell (World.block_lt_of_cell? w _ hw104_0)).trans hw104_0), ((HB.out.cell (World.block_lt_of_cell? w _ hw104_1)).trans hw104_1)⟩ (fun hHeld => ?_); clear hK K; refine norm_ (a' := ?_) ?_ ?_
              rotate_left
              ·show Act.put _ (some 33) _ = _
               simp only [Act.put, List.setIfInBounds_toArray, List.set_cons_zero, List.set_cons_succ, i64_w, i32_w]; rfl
              refine pure_ (i := 14) (N := some 34) (v := ?_) (a' := ?_) #[y_,y_,y_,y_,y_,y_,y_,y_,y_,y_,y_,y_,y_,y_,y_,n_,n_] rfl rfl (any_of HT_.out (by kernel_rfl)) (fun _ _ _ h => h) (Or.inl ⟨by rfl, ?_⟩) ?_ ?_
              rotate_left
              ·intro w'; go_simp; with_reducible rfl
              rotate_left
              ·simp only [Act.put, List.setIfInBounds_toArray, List.set_cons_zero, List.set_cons_succ, i64_w, i32_w]; rfl
              refine pure_ (i := 15) (N := some 35) (v := ?_) (a' := ?_) #[y_,y_,y_,y_,y_,y_,y_,y_,y_,y_,y_,y_,y_,y_,y_,y_,n_] rfl rfl (any_of HT_.out (by kernel_rfl)) (fun _ _ _ h => h) (Or.inl ⟨by rfl, ?_⟩) ?_ ?_
              rotate_left
              ·intro w'; go_simp; with_reducible rfl
              rotate_left
              ·simp only [Act.put, List.setIfInBounds_toArray, List.set_cons_zero, List.set_cons_succ, i64_w, i32_w]; rfl
              refine pure_ (i := 16) (N := some 36) (v := ?_) (a' := ?_) #[y_,y_,y_,y_,y_,y_,y_,y_,y_,y_,y_,y_,y_,y_,y_,y_,y_] rfl rfl (any_of HT_.out (by kernel_rfl)) (fun _ _ _ h => h) (Or.inl ⟨by rfl, ?_⟩) ?_ ?_
              rotate_left
              ·intro w'; go_simp; with_reducible rfl
              rotate_left
              ·simp only [Act.put, List.setIfInBounds_toArray, List.set_cons_zero, List.set_cons_succ, i64_w, i32_w]; rfl
              refine done_ (done_of HT_.out (by kernel_rfl)) ?_
              try go_wp2
              go_roundg k2
              case measure => have := HJ1.out; have := HK2.out; omega
              case rel => exact ⟨(wrap64 (x15_2 + 1)), (by first | rfl | (simp; done) | (simp [*]; done)), H', ⟨by have := HJ1.out; have := HK2.out; omega⟩, ⟨(bC1 HB GE102.out)⟩⟩
             ·replace c15 := Bool.eq_false_iff.mpr c15
              subst c15
              have H1 : (some false) = some r := by rw [if_neg (show ¬ (false = true) by decide)] at H; exact H
              clear H; have H := H1; clear H1; obtain rfl := Option.some.inj H; have p101 : 0 ≤ (x15_2 : Int) := of_decide_eq_true bX; have q101 : x15_2 < (l0.length : Int) := of_decide_eq_true bX; obtain ⟨ad101, e101, hx101_0, hx101_1⟩ := at_T35 HR0.out x15_2 p101 q101
              cases e101
              replace hx101_0 := (HB.out.cell (World.block_lt_of_cell? w _ hx101_0)).trans hx101_0; replace hx101_1 := (HB.out.cell (World.block_lt_of_cell? w _ hx101_1)).trans hx101_1; replace p101 := eq_true p101; replace q101 := eq_true q101
              try go_wp2_with (first | ((with_reducible refine gate_dst (N := 4) rfl ?_); (try (refine gate_guard (by rfl) ?_; dsimp only)); refine box_event ?hg (N := 4) ?hd (cs := #[.int .i64 0, .int .i64 0]) (t := 35) ?hr ?_; (case hd => rfl); (case hg => rfl); (case hr => first | (go_simp; done) | (go_simp; rfl)); intro gb102 hg w22 hbox hb; have n0_ := Aside0.mk (below_step (bC0 HB) hb); have n1_ := Aside0.mk (hbox); have n2_ := Aside0.mk ((by rw [hg]; exact (below_size (bC0 HB)) : w.heap.size ≤ gb102)); have n3_ := Aside0.mk ((by rw [hg]; exact (below_size (bC0 HB)) : w.heap.size ≤ gb102)); clear HB; have HB := n0_; have BK102 := n1_; have GW102 := n2_; have GE102 := n3_; clear n0_ n1_ n2_ n3_; clear hb hbox hg; have hcz23_0 : w22.cell? ⟨gb102, 0, none⟩ = some (.int .i64 0) := (blk_cell BK102.out 0).trans rfl; have hcz23_1 : w22.cell? ⟨gb102, 1, none⟩ = some (.int .i64 0) := (blk_cell BK102.out 1).trans rfl; have hfz23_0 := blk_frozen BK102.out 0; have hfz23_1 := blk_frozen BK102.out 1))
              have n0_ : Aside0 (((w22.setCell ⟨gb102, 0, none⟩ (.int .i64 ((rd_T35 l0 x15_2).f0))).setCell ⟨gb102, 1, none⟩ (.int .i64 ((rd_T35 l0 x15_2).f1))).heap[gb102]? = some (.cells #[.int .i64 ((rd_T35 l0 x15_2).f0), .int .i64 ((rd_T35 l0 x15_2).f1)] 35 (0, 0))) := ⟨by (with_reducible repeat (first | refine blk_drewN ?_ _ | refine blk_drew ?_ | refine blk_alloc ?_ _)); refine blk_put (cs := #[.int .i64 ((rd_T35 l0 x15_2).f0), .int .i64 0]) ?_ 1 _ rfl; (with_reducible repeat (first | refine blk_drewN ?_ _ | refine blk_drew ?_ | refine blk_alloc ?_ _)); refine blk_put (cs := #[.int .i64 0, .int .i64 0]) ?_ 0 _ rfl; (with_reducible repeat (first | refine blk_drewN ?_ _ | refine blk_drew ?_ | refine blk_alloc ?_ _)); exact BK102.out⟩; have n1_ : Aside0 (Below w.heap.size w ((w22.setCell ⟨gb102, 0, none⟩ (.int .i64 ((rd_T35 l0 x15_2).f0))).setCell ⟨gb102, 1, none⟩ (.int .i64 ((rd_T35 l0 x15_2).f1)))) := ⟨(bC1 HB GE102.out)⟩; (try clear BK102); (try clear HB); generalize ((w22.setCell ⟨gb102, 0, none⟩ (.int .i64 ((rd_T35 l0 x15_2).f0))).setCell ⟨gb102, 1, none⟩ (.int .i64 ((rd_T35 l0 x15_2).f1))) = w24 at n0_ n1_ ⊢; have BK102 := n0_; have HB := n1_; clear n0_ n1_; have n0_ := Aside0.mk (blk_drew BK102.out); have n1_ := Aside0.mk (below_drew1 HB.out); clear BK102; clear HB; have BK102 := n0_; have HB := n1_; clear n0_ n1_; have p104 : 0 ≤ ((ji11) : Int) := of_decide_eq_true bX; have q104 : (ji11) < (l0.length : Int) := of_decide_eq_true bX; obtain ⟨ad104, e104, hx104_0, hx104_1⟩ := at_T35 HR0.out (ji11) p104 q104; have hw104_1 := hx104_1; have hw104_0 := hx104_0; obtain rfl : ad101 = ad104 := (by injection e104); replace hx104_0 := (HB.out.cell (World.block_lt_of_cell? w _ hx104_0)).trans hx104_0; replace hx104_1 := (HB.out.cell (World.block_lt_of_cell? w _ hx104_1)).trans hx104_1; replace p104 := eq_true p104; replace q104 := eq_true q104; refine start_ (n := 17) (S := fun w' => w'.cell? ⟨gb102, 0, none⟩ = some (.int .i64 ((rd_T35 l0 x15_2).f0)) ∧ w'.cell? ⟨gb102, 1, none⟩ = some (.int .i64 ((rd_T35 l0 x15_2).f1)) ∧ w'.cell? (ad101.add (((ji11)).toNat * 2)) = some (.int .i64 ((rd_T35 l0 (ji11)).f0)) ∧ w'.cell? ⟨(ad101.add (((ji11)).toNat * 2)).block, (ad101.add (((ji11)).toNat * 2)).off + 1, none⟩ = some (.int .i64 ((rd_T35 l0 (ji11)).f1))) (ds := []) #[n_,n_,n_,n_,n_,n_,n_,n_,n_,n_,n_,n_,n_,n_,n_,n_,n_] (by kernel_rfl) rfl rfl ⟨(blk_cell BK102.out 0).trans rfl, (blk_cell BK102.out 1).trans rfl, ((HB.out.cell (World.block_lt_of_cell? w _ hw104_0)).trans hw104_0), ((HB.out.cell (World.block_lt_of_cell? w _ hw104_1)).trans hw104_1)⟩ (fun hHeld => ?_); refine with_tabW impl_isPath.tab6 impl_isPath.bits6 (fun HT_ HW_ => ?_); generalize w24.drew = w25 at BK102 HB hx104_0 hx104_1 hHeld ⊢; refine take_ (i := 0) (N := some 20) (v := ?_) (a' := ?_) #[y_,n_,n_,n_,n_,n_,n_,n_,n_,n_,n_,n_,n_,n_,n_,n_,n_] rfl rfl (take_ofW HT_.out HW_.out (by kernel_rfl)) (fun _ _ _ h => h) (Or.inl ⟨by rfl, ?_⟩) hHeld ?_ ?_
              rotate_left
              ·rintro w' ⟨s0, s1, s2, s3⟩; go_simp; with_reducible rfl
              rotate_left
              ·simp only [Act.put, List.setIfInBounds_toArray, List.set_cons_zero, List.set_cons_succ, i64_w, i32_w]; rfl
              refine one_ (i := 1) (N := some 21) #[y_,y_,n_,n_,n_,n_,n_,n_,n_,n_,n_,n_,n_,n_,n_,n_,n_] rfl rfl (one_of HT_.out (by kernel_rfl)) (by decide) (fun K hK => ?_); refine goes_ Tryd.func40 (by kernel_rfl) rfl #[.agg #[.int .i64 ((rd_T35 l0 x15_2).f0), .int .i64 ((rd_T35 l0 x15_2).f1)]] (by rfl) rfl rfl bM ?_
              with_reducible refine (impl_PtOk.calls ((rd_T35 l0 x15_2).f0) ((rd_T35 l0 x15_2).f1) true _ A8.out).mono ?_
              rintro e w26 ⟨rfl, hb⟩; refine ⟨_, rfl, ?_⟩; have n0_ := Aside0.mk (blk_below (g := gb102) (o := .cells #[.int .i64 ((rd_T35 l0 x15_2).f0), .int .i64 ((rd_T35 l0 x15_2).f1)] 35 (0, 0)) (bA BK102) hb); have n1_ := Aside0.mk (below_step (bC1 HB GE102.out) hb); clear BK102; clear HB; have BK102 := n0_; have HB := n1_; clear n0_ n1_; (try clear hb); (try clear hb2); (try clear hk); (try clear hi); refine hK.out _ _ ⟨(blk_cell BK102.out 0).trans rfl, (blk_cell BK102.out 1).trans rfl, ((HB.out.cell (World.block_lt_of_cell? w _ hw104_0)).trans hw104_0), ((HB.out.cell (World.block_lt_of_cell? w _ hw104_1)).trans hw104_1)⟩ (fun hHeld => ?_); clear hK K; refine norm_ (a' := ?_) ?_ ?_
              rotate_left
              ·show Act.put _ (some 21) _ = _
               simp only [Act.put, List.setIfInBounds_toArray, List.set_cons_zero, List.set_cons_succ, i64_w, i32_w]; rfl
              refine pure_ (i := 2) (N := some 22) (v := ?_) (a' := ?_) #[y_,y_,y_,n_,n_,n_,n_,n_,n_,n_,n_,n_,n_,n_,n_,n_,n_] rfl rfl (any_of HT_.out (by kernel_rfl)) (fun _ _ _ h => h) (Or.inl ⟨by rfl, ?_⟩) ?_ ?_
              rotate_left
              ·intro w'; go_simp; with_reducible rfl
              rotate_left
              ·simp only [Act.put, List.setIfInBounds_toArray, List.set_cons_zero, List.set_cons_succ, i64_w, i32_w]; rfl
              refine pure_ (i := 3) (N := some 23) (v := ?_) (a' := ?_) #[y_,y_,y_,y_,n_,n_,n_,n_,n_,n_,n_,n_,n_,n_,n_,n_,n_] rfl rfl (any_of HT_.out (by kernel_rfl)) (fun _ _ _ h => h) (Or.inl ⟨by rfl, ?_⟩) ?_ ?_
              rotate_left
              ·intro w'; go_simp; with_reducible rfl
              rotate_left
              ·simp only [Act.put, List.setIfInBounds_toArray, List.set_cons_zero, List.set_cons_succ, i64_w, i32_w]; rfl
              refine pure_ (i := 4) (N := some 24) (v := ?_) (a' := ?_) #[y_,y_,y_,y_,y_,n_,n_,n_,n_,n_,n_,n_,n_,n_,n_,n_,n_] rfl rfl (any_of HT_.out (by kernel_rfl)) (fun _ _ _ h => h) (Or.inl ⟨by rfl, ?_⟩) ?_ ?_
              rotate_left
              ·intro w'; go_simp; with_reducible rfl
              rotate_left
              ·simp only [Act.put, List.setIfInBounds_toArray, List.set_cons_zero, List.set_cons_succ, i64_w, i32_w]; rfl
              refine pure_ (i := 5) (N := some 25) (v := ?_) (a' := ?_) #[y_,y_,y_,y_,y_,y_,n_,n_,n_,n_,n_,n_,n_,n_,n_,n_,n_] rfl rfl (any_of HT_.out (by kernel_rfl)) (fun _ _ _ h => h) (Or.inl ⟨by rfl, ?_⟩) ?_ ?_
              rotate_left
              ·intro w'; go_simp; with_reducible rfl
              rotate_left
              ·simp only [Act.put, List.setIfInBounds_toArray, List.set_cons_zero, List.set_cons_succ, i64_w, i32_w]; rfl
              refine pure_ (i := 6) (N := some 26) (v := ?_) (a' := ?_) #[y_,y_,y_,y_,y_,y_,y_,n_,n_,n_,n_,n_,n_,n_,n_,n_,n_] rfl rfl (any_of HT_.out (by kernel_rfl)) (fun _ _ _ h => h) (Or.inl ⟨by rfl, ?_⟩) ?_ ?_
              rotate_left
              ·intro w'; go_simp; with_reducible rfl
              rotate_left
              ·simp only [Act.put, List.setIfInBounds_toArray, List.set_cons_zero, List.set_cons_succ, i64_w, i32_w]; rfl
              refine pure_ (i := 7) (N := some 27) (v := ?_) (a' := ?_) #[y_,y_,y_,y_,y_,y_,y_,y_,n_,n_,n_,n_,n_,n_,n_,n_,n_] rfl rfl (any_of HT_.out (by kernel_rfl)) (fun _ _ _ h => h) (Or.inl ⟨by rfl, ?_⟩) ?_ ?_
              rotate_left
              ·intro w'; go_simp; with_reducible rfl
              rotate_left
              ·simp only [Act.put, List.setIfInBounds_toArray, List.set_cons_zero, List.set_cons_succ, i64_w, i32_w]; rfl
              refine pure_ (i := 8) (N := some 28) (v := ?_) (a' := ?_) #[y_,y_,y_,y_,y_,y_,y_,y_,y_,n_,n_,n_,n_,n_,n_,n_,n_] rfl rfl (any_of HT_.out (by kernel_rfl)) (fun _ _ _ h => h) (Or.inl ⟨by rfl, ?_⟩) ?_ ?_
              rotate_left
              ·intro w'; go_simp; with_reducible rfl
              rotate_left
              ·simp only [Act.put, List.setIfInBounds_toArray, List.set_cons_zero, List.set_cons_succ, i64_w, i32_w]; rfl
              refine pure_ (i := 9) (N := some 29) (v := ?_) (a' := ?_) #[y_,y_,y_,y_,y_,y_,y_,y_,y_,y_,n_,n_,n_,n_,n_,n_,n_] rfl rfl (any_of HT_.out (by kernel_rfl)) (fun _ _ _ h => h) (Or.inl ⟨by rfl, ?_⟩) ?_ ?_
              rotate_left
              ·intro w'; go_simp; with_reducible rfl
              rotate_left
              ·simp only [Act.put, List.setIfInBounds_toArray, List.set_cons_zero, List.set_cons_succ, i64_w, i32_w]; rfl
              refine pure_ (i := 10) (N := some 30) (v := ?_) (a' := ?_) #[y_,y_,y_,y_,y_,y_,y_,y_,y_,y_,y_,n_,n_,n_,n_,n_,n_] rfl rfl (any_of HT_.out (by kernel_rfl)) (fun _ _ _ h => h) (Or.inl ⟨by rfl, ?_⟩) ?_ ?_
              rotate_left
              ·intro w'; go_simp; with_reducible rfl
              rotate_left
              ·simp only [Act.put, List.setIfInBounds_toArray, List.set_cons_zero, List.set_cons_succ, i64_w, i32_w]; rfl
              refine take_ (i := 11) (N := some 31) (v := ?_) (a' := ?_) #[y_,y_,y_,y_,y_,y_,y_,y_,y_,y_,y_,y_,n_,n_,n_,n_,n_] rfl rfl (take_ofW HT_.out HW_.out (by kernel_rfl)) (fun _ _ _ h => h) (Or.inl ⟨by rfl, ?_⟩) hHeld ?_ ?_
              rotate_left
              ·rintro w' ⟨s0, s1, s2, s3⟩; go_simp; with_reducible rfl
              rotate_left
              ·simp only [Act.put, List.setIfInBounds_toArray, List.set_cons_zero, List.set_cons_succ, i64_w, i32_w]; rfl
              refine take_ (i := 12) (N := some 32) (v := ?_) (a' := ?_) #[y_,y_,y_,y_,y_,y_,y_,y_,y_,y_,y_,y_,y_,n_,n_,n_,n_] rfl rfl (take_ofW HT_.out HW_.out (by kernel_rfl)) (fun _ _ _ h => h) (Or.inl ⟨by rfl, ?_⟩) hHeld ?_ ?_
              rotate_left
              ·rintro w' ⟨s0, s1, s2, s3⟩; go_simp; with_reducible rfl
              rotate_left
              ·simp only [Act.put, List.setIfInBounds_toArray, List.set_cons_zero, List.set_cons_succ, i64_w, i32_w]; rfl
              refine one_ (i := 13) (N := some 33) #[y_,y_,y_,y_,y_,y_,y_,y_,y_,y_,y_,y_,y_,y_,n_,n_,n_] rfl rfl (one_of HT_.out (by kernel_rfl)) (by decide) (fun K hK => ?_); refine goes_ Tryd.func59 (by kernel_rfl) rfl #[.agg #[.int .i64 ((rd_T35 l0 (ji11)).f0), .int .i64 ((rd_T35 l0 (ji11)).f1)], .agg #[.int .i64 ((rd_T35 l0 x15_2).f0), .int .i64 ((rd_T35 l0 x15_2).f1)]] (by rfl) rfl rfl (by (try simp only [List.map_toArray, List.map_cons, List.map_nil]); first | done | (simp only [hji11]; rfl) | rfl | (simp only [List.length_drop, List.length_take]; rfl)) ?_
              with_reducible refine (impl_isStep.calls ((rd_T35 l0 (ji11)).f0) ((rd_T35 l0 (ji11)).f1) ((rd_T35 l0 x15_2).f0) ((rd_T35 l0 x15_2).f1) false _ A14.out).mono ?_
              rintro e w27 ⟨rfl, hb⟩; refine ⟨_, rfl, ?_⟩; have n0_ := Aside0.mk (blk_below (g := gb102) (o := .cells #[.int .i64 ((rd_T35 l0 x15_2).f0), .int .i64 ((rd_T35 l0 x15_2).f1)] 35 (0, 0)) (bA BK102) hb); have n1_ := Aside0.mk (below_step (bC1 HB GE102.out) hb); clear BK102; clear HB; have BK102 := n0_; have HB := n1_; clear n0_ n1_; (try clear hb); (try clear hb2); (try clear hk); (try clear hi); refine hK.out _ _ ⟨(blk_cell BK102.out 0).trans rfl, (blk_cell BK102.out 1).trans rfl, ((HB.out.cell (World.block_lt_of_cell? w _ hw104_0)).trans hw104_0), ((HB.out.cell (World.block_lt_of_cell? w _ hw104_1)).trans hw104_1)⟩ (fun hHeld => ?_); clear hK K; refine norm_ (a' := ?_) ?_ ?_
              rotate_left
              ·show Act.put _ (some 33) _ = _
               simp only [Act.put, List.setIfInBounds_toArray, List.set_cons_zero, List.set_cons_succ, i64_w, i32_w]; rfl
              refine pure_ (i := 14) (N := some 34) (v := ?_) (a' := ?_) #[y_,y_,y_,y_,y_,y_,y_,y_,y_,y_,y_,y_,y_,y_,y_,n_,n_] rfl rfl (any_of HT_.out (by kernel_rfl)) (fun _ _ _ h => h) (Or.inl ⟨by rfl, ?_⟩) ?_ ?_
              rotate_left
              ·intro w'; go_simp; with_reducible rfl
              rotate_left
              ·simp only [Act.put, List.setIfInBounds_toArray, List.set_cons_zero, List.set_cons_succ, i64_w, i32_w]; rfl
              refine pure_ (i := 15) (N := some 35) (v := ?_) (a' := ?_) #[y_,y_,y_,y_,y_,y_,y_,y_,y_,y_,y_,y_,y_,y_,y_,y_,n_] rfl rfl (any_of HT_.out (by kernel_rfl)) (fun _ _ _ h => h) (Or.inl ⟨by rfl, ?_⟩) ?_ ?_
              rotate_left
              ·intro w'; go_simp; with_reducible rfl
              rotate_left
              ·simp only [Act.put, List.setIfInBounds_toArray, List.set_cons_zero, List.set_cons_succ, i64_w, i32_w]; rfl
              refine pure_ (i := 16) (N := some 36) (v := ?_) (a' := ?_) #[y_,y_,y_,y_,y_,y_,y_,y_,y_,y_,y_,y_,y_,y_,y_,y_,y_] rfl rfl (any_of HT_.out (by kernel_rfl)) (fun _ _ _ h => h) (Or.inl ⟨by rfl, ?_⟩) ?_ ?_
              rotate_left
              ·intro w'; go_simp; with_reducible rfl
              rotate_left
              ·simp only [Act.put, List.setIfInBounds_toArray, List.set_cons_zero, List.set_cons_succ, i64_w, i32_w]; rfl
              refine done_ (done_of HT_.out (by kernel_rfl)) ?_
              try go_wp2
              go_ret
              exact ⟨by first | rfl | (simp [errW_none, errW_some] <;> rfl) | (simp only [← hji11]; first | rfl | (simp [errW_none, errW_some] <;> rfl)) | (simp [*, errW_none, errW_some] <;> rfl), (bC1 HB GE102.out)⟩
            ·rw [if_neg c13] at H; exact absurd H (by simp)
           ·rw [if_neg c12] at H; exact absurd H (by simp)
          ·rw [if_neg c10] at H
           have c10b0 : decide (0 < x15_2) = false := decide_eq_false c10; clear c10; have H' := Aside0.mk H; clear H; have p101 : 0 ≤ (x15_2 : Int) := of_decide_eq_true bX; have q101 : x15_2 < (l0.length : Int) := of_decide_eq_true bX; obtain ⟨ad101, e101, hx101_0, hx101_1⟩ := at_T35 HR0.out x15_2 p101 q101
           cases e101
           replace hx101_0 := (HB.out.cell (World.block_lt_of_cell? w _ hx101_0)).trans hx101_0; replace hx101_1 := (HB.out.cell (World.block_lt_of_cell? w _ hx101_1)).trans hx101_1; replace p101 := eq_true p101; replace q101 := eq_true q101
           try go_wp2_with (first | ((with_reducible refine gate_dst (N := 4) rfl ?_); (try (refine gate_guard (by rfl) ?_; dsimp only)); refine box_event ?hg (N := 4) ?hd (cs := #[.int .i64 0, .int .i64 0]) (t := 35) ?hr ?_; (case hd => rfl); (case hg => rfl); (case hr => first | (go_simp; done) | (go_simp; rfl)); intro gb102 hg w28 hbox hb; have n0_ := Aside0.mk (below_step (bC0 HB) hb); have n1_ := Aside0.mk (hbox); have n2_ := Aside0.mk ((by rw [hg]; exact (below_size (bC0 HB)) : w.heap.size ≤ gb102)); have n3_ := Aside0.mk ((by rw [hg]; exact (below_size (bC0 HB)) : w.heap.size ≤ gb102)); clear HB; have HB := n0_; have BK102 := n1_; have GW102 := n2_; have GE102 := n3_; clear n0_ n1_ n2_ n3_; clear hb hbox hg; have hcz29_0 : w28.cell? ⟨gb102, 0, none⟩ = some (.int .i64 0) := (blk_cell BK102.out 0).trans rfl; have hcz29_1 : w28.cell? ⟨gb102, 1, none⟩ = some (.int .i64 0) := (blk_cell BK102.out 1).trans rfl; have hfz29_0 := blk_frozen BK102.out 0; have hfz29_1 := blk_frozen BK102.out 1))
           have n0_ : Aside0 (((w28.setCell ⟨gb102, 0, none⟩ (.int .i64 ((rd_T35 l0 x15_2).f0))).setCell ⟨gb102, 1, none⟩ (.int .i64 ((rd_T35 l0 x15_2).f1))).heap[gb102]? = some (.cells #[.int .i64 ((rd_T35 l0 x15_2).f0), .int .i64 ((rd_T35 l0 x15_2).f1)] 35 (0, 0))) := ⟨by (with_reducible repeat (first | refine blk_drewN ?_ _ | refine blk_drew ?_ | refine blk_alloc ?_ _)); refine blk_put (cs := #[.int .i64 ((rd_T35 l0 x15_2).f0), .int .i64 0]) ?_ 1 _ rfl; (with_reducible repeat (first | refine blk_drewN ?_ _ | refine blk_drew ?_ | refine blk_alloc ?_ _)); refine blk_put (cs := #[.int .i64 0, .int .i64 0]) ?_ 0 _ rfl; (with_reducible repeat (first | refine blk_drewN ?_ _ | refine blk_drew ?_ | refine blk_alloc ?_ _)); exact BK102.out⟩; have n1_ : Aside0 (Below w.heap.size w ((w28.setCell ⟨gb102, 0, none⟩ (.int .i64 ((rd_T35 l0 x15_2).f0))).setCell ⟨gb102, 1, none⟩ (.int .i64 ((rd_T35 l0 x15_2).f1)))) := ⟨(bC1 HB GE102.out)⟩; (try clear BK102); (try clear HB); generalize ((w28.setCell ⟨gb102, 0, none⟩ (.int .i64 ((rd_T35 l0 x15_2).f0))).setCell ⟨gb102, 1, none⟩ (.int .i64 ((rd_T35 l0 x15_2).f1))) = w30 at n0_ n1_ ⊢; have BK102 := n0_; have HB := n1_; clear n0_ n1_; have n0_ := Aside0.mk (blk_drew BK102.out); have n1_ := Aside0.mk (below_drew1 HB.out); clear BK102; clear HB; have BK102 := n0_; have HB := n1_; clear n0_ n1_; refine start_ (n := 17) (S := fun w' => w'.cell? ⟨gb102, 0, none⟩ = some (.int .i64 ((rd_T35 l0 x15_2).f0)) ∧ w'.cell? ⟨gb102, 1, none⟩ = some (.int .i64 ((rd_T35 l0 x15_2).f1))) (ds := []) #[n_,n_,n_,n_,n_,n_,n_,n_,n_,n_,n_,n_,n_,n_,n_,n_,n_] (by kernel_rfl) rfl rfl ⟨(blk_cell BK102.out 0).trans rfl, (blk_cell BK102.out 1).trans rfl⟩ (fun hHeld => ?_); refine with_tabW impl_isPath.tab6 impl_isPath.bits6 (fun HT_ HW_ => ?_); generalize w30.drew = w31 at BK102 HB hHeld ⊢; refine take_ (i := 0) (N := some 20) (v := ?_) (a' := ?_) #[y_,n_,n_,n_,n_,n_,n_,n_,n_,n_,n_,n_,n_,n_,n_,n_,n_] rfl rfl (take_ofW HT_.out HW_.out (by kernel_rfl)) (fun _ _ _ h => h) (Or.inl ⟨by rfl, ?_⟩) hHeld ?_ ?_
           rotate_left
           ·rintro w' ⟨s0, s1⟩; go_simp; with_reducible rfl
           rotate_left
           ·simp only [Act.put, List.setIfInBounds_toArray, List.set_cons_zero, List.set_cons_succ, i64_w, i32_w]; rfl
           refine one_ (i := 1) (N := some 21) #[y_,y_,n_,n_,n_,n_,n_,n_,n_,n_,n_,n_,n_,n_,n_,n_,n_] rfl rfl (one_of HT_.out (by kernel_rfl)) (by decide) (fun K hK => ?_); refine goes_ Tryd.func40 (by kernel_rfl) rfl #[.agg #[.int .i64 ((rd_T35 l0 x15_2).f0), .int .i64 ((rd_T35 l0 x15_2).f1)]] (by rfl) rfl rfl bM ?_
           with_reducible refine (impl_PtOk.calls ((rd_T35 l0 x15_2).f0) ((rd_T35 l0 x15_2).f1) true _ A8.out).mono ?_
           rintro e w32 ⟨rfl, hb⟩; refine ⟨_, rfl, ?_⟩; have n0_ := Aside0.mk (blk_below (g := gb102) (o := .cells #[.int .i64 ((rd_T35 l0 x15_2).f0), .int .i64 ((rd_T35 l0 x15_2).f1)] 35 (0, 0)) (bA BK102) hb); have n1_ := Aside0.mk (below_step (bC1 HB GE102.out) hb); clear BK102; clear HB; have BK102 := n0_; have HB := n1_; clear n0_ n1_; (try clear hb); (try clear hb2); (try clear hk); (try clear hi); refine hK.out _ _ ⟨(blk_cell BK102.out 0).trans rfl, (blk_cell BK102.out 1).trans rfl⟩ (fun hHeld => ?_); clear hK K; refine norm_ (a' := ?_) ?_ ?_
           rotate_left
           ·show Act.put _ (some 21) _ = _
            simp only [Act.put, List.setIfInBounds_toArray, List.set_cons_zero, List.set_cons_succ, i64_w, i32_w]; rfl
           refine pure_ (i := 2) (N := some 22) (v := ?_) (a' := ?_) #[y_,y_,y_,n_,n_,n_,n_,n_,n_,n_,n_,n_,n_,n_,n_,n_,n_] rfl rfl (any_of HT_.out (by kernel_rfl)) (fun _ _ _ h => h) (Or.inl ⟨by rfl, ?_⟩) ?_ ?_
           rotate_left
           ·intro w'; go_simp; with_reducible rfl
           rotate_left
           ·simp only [Act.put, List.setIfInBounds_toArray, List.set_cons_zero, List.set_cons_succ, i64_w, i32_w]; rfl
           refine pure_ (i := 3) (N := some 23) (v := ?_) (a' := ?_) #[y_,y_,y_,y_,n_,n_,n_,n_,n_,n_,n_,n_,n_,n_,n_,n_,n_] rfl rfl (any_of HT_.out (by kernel_rfl)) (fun _ _ _ h => h) (Or.inl ⟨by rfl, ?_⟩) ?_ ?_
           rotate_left
           ·intro w'; go_simp; with_reducible rfl
           rotate_left
           ·simp only [Act.put, List.setIfInBounds_toArray, List.set_cons_zero, List.set_cons_succ, i64_w, i32_w]; rfl
           refine pure_ (i := 4) (N := some 24) (v := ?_) (a' := ?_) #[y_,y_,y_,y_,y_,n_,n_,n_,n_,n_,n_,n_,n_,n_,n_,n_,n_] rfl rfl (any_of HT_.out (by kernel_rfl)) (fun _ _ _ h => h) (Or.inl ⟨by rfl, ?_⟩) ?_ ?_
           rotate_left
           ·intro w'; go_simp; with_reducible rfl
           rotate_left
           ·simp only [Act.put, List.setIfInBounds_toArray, List.set_cons_zero, List.set_cons_succ, i64_w, i32_w]; rfl
           refine pure_ (i := 5) (N := some 25) (v := ?_) (a' := ?_) #[y_,y_,y_,y_,y_,y_,n_,n_,n_,n_,n_,n_,n_,n_,n_,n_,n_] rfl rfl (any_of HT_.out (by kernel_rfl)) (fun _ _ _ h => h) (Or.inl ⟨by rfl, ?_⟩) ?_ ?_
           rotate_left
           ·intro w'; go_simp; with_reducible rfl
           rotate_left
           ·simp only [Act.put, List.setIfInBounds_toArray, List.set_cons_zero, List.set_cons_succ, i64_w, i32_w]; rfl
           refine pure_ (i := 6) (N := some 26) (v := ?_) (a' := ?_) #[y_,y_,y_,y_,y_,y_,y_,n_,n_,n_,n_,n_,n_,n_,n_,n_,n_] rfl rfl (any_of HT_.out (by kernel_rfl)) (fun _ _ _ h => h) (Or.inl ⟨by rfl, ?_⟩) ?_ ?_
           rotate_left
           ·intro w'; go_simp; with_reducible rfl
           rotate_left
           ·simp only [Act.put, List.setIfInBounds_toArray, List.set_cons_zero, List.set_cons_succ, i64_w, i32_w]; rfl
           refine pure_ (i := 7) (N := some 27) (v := undef) (a' := ?_) #[y_,y_,y_,y_,y_,y_,y_,y_,n_,n_,n_,n_,n_,n_,n_,n_,n_] rfl rfl (any_of HT_.out (by kernel_rfl)) (fun _ _ _ h => h) (Or.inr ⟨by rfl, rfl⟩) ?_ ?_
           rotate_left
           ·simp only [Act.put, List.setIfInBounds_toArray, List.set_cons_zero, List.set_cons_succ, i64_w, i32_w]; rfl
           refine pure_ (i := 8) (N := some 28) (v := undef) (a' := ?_) #[y_,y_,y_,y_,y_,y_,y_,y_,y_,n_,n_,n_,n_,n_,n_,n_,n_] rfl rfl (any_of HT_.out (by kernel_rfl)) (fun _ _ _ h => h) (Or.inr ⟨by rfl, rfl⟩) ?_ ?_
           rotate_left
           ·simp only [Act.put, List.setIfInBounds_toArray, List.set_cons_zero, List.set_cons_succ, i64_w, i32_w]; rfl
           refine pure_ (i := 9) (N := some 29) (v := undef) (a' := ?_) #[y_,y_,y_,y_,y_,y_,y_,y_,y_,y_,n_,n_,n_,n_,n_,n_,n_] rfl rfl (any_of HT_.out (by kernel_rfl)) (fun _ _ _ h => h) (Or.inr ⟨by rfl, rfl⟩) ?_ ?_
           rotate_left
           ·simp only [Act.put, List.setIfInBounds_toArray, List.set_cons_zero, List.set_cons_succ, i64_w, i32_w]; rfl
           refine pure_ (i := 10) (N := some 30) (v := undef) (a' := ?_) #[y_,y_,y_,y_,y_,y_,y_,y_,y_,y_,y_,n_,n_,n_,n_,n_,n_] rfl rfl (any_of HT_.out (by kernel_rfl)) (fun _ _ _ h => h) (Or.inr ⟨by rfl, rfl⟩) ?_ ?_
           rotate_left
           ·simp only [Act.put, List.setIfInBounds_toArray, List.set_cons_zero, List.set_cons_succ, i64_w, i32_w]; rfl
           refine pure_ (i := 11) (N := some 31) (v := undef) (a' := ?_) #[y_,y_,y_,y_,y_,y_,y_,y_,y_,y_,y_,y_,n_,n_,n_,n_,n_] rfl rfl (any_of HT_.out (by kernel_rfl)) (fun _ _ _ h => h) (Or.inr ⟨by rfl, rfl⟩) ?_ ?_
           rotate_left
           ·simp only [Act.put, List.setIfInBounds_toArray, List.set_cons_zero, List.set_cons_succ, i64_w, i32_w]; rfl
           refine pure_ (i := 12) (N := some 32) (v := undef) (a' := ?_) #[y_,y_,y_,y_,y_,y_,y_,y_,y_,y_,y_,y_,y_,n_,n_,n_,n_] rfl rfl (any_of HT_.out (by kernel_rfl)) (fun _ _ _ h => h) (Or.inr ⟨by rfl, rfl⟩) ?_ ?_
           rotate_left
           ·simp only [Act.put, List.setIfInBounds_toArray, List.set_cons_zero, List.set_cons_succ, i64_w, i32_w]; rfl
           refine pure_ (i := 13) (N := some 33) (v := undef) (a' := ?_) #[y_,y_,y_,y_,y_,y_,y_,y_,y_,y_,y_,y_,y_,y_,n_,n_,n_] rfl rfl (any_of HT_.out (by kernel_rfl)) (fun _ _ _ h => h) (Or.inr ⟨by rfl, rfl⟩) ?_ ?_
           rotate_left
           ·simp only [Act.put, List.setIfInBounds_toArray, List.set_cons_zero, List.set_cons_succ, i64_w, i32_w]; rfl
           refine pure_ (i := 14) (N := some 34) (v := undef) (a' := ?_) #[y_,y_,y_,y_,y_,y_,y_,y_,y_,y_,y_,y_,y_,y_,y_,n_,n_] rfl rfl (any_of HT_.out (by kernel_rfl)) (fun _ _ _ h => h) (Or.inr ⟨by rfl, rfl⟩) ?_ ?_
           rotate_left
           ·simp only [Act.put, List.setIfInBounds_toArray, List.set_cons_zero, List.set_cons_succ, i64_w, i32_w]; rfl
           refine pure_ (i := 15) (N := some 35) (v := ?_) (a' := ?_) #[y_,y_,y_,y_,y_,y_,y_,y_,y_,y_,y_,y_,y_,y_,y_,y_,n_] rfl rfl (any_of HT_.out (by kernel_rfl)) (fun _ _ _ h => h) (Or.inl ⟨by rfl, ?_⟩) ?_ ?_
           rotate_left
           ·intro w'; go_simp; with_reducible rfl
           rotate_left
           ·simp only [Act.put, List.setIfInBounds_toArray, List.set_cons_zero, List.set_cons_succ, i64_w, i32_w]; rfl
           refine pure_ (i := 16) (N := some 36) (v := ?_) (a' := ?_) #[y_,y_,y_,y_,y_,y_,y_,y_,y_,y_,y_,y_,y_,y_,y_,y_,y_] rfl rfl (any_of HT_.out (by kernel_rfl)) (fun _ _ _ h => h) (Or.inl ⟨by rfl, ?_⟩) ?_ ?_
           rotate_left
           ·intro w'; go_simp; with_reducible rfl
           rotate_left
           ·simp only [Act.put, List.setIfInBounds_toArray, List.set_cons_zero, List.set_cons_succ, i64_w, i32_w]; rfl
           refine done_ (done_of HT_.out (by kernel_rfl)) ?_
           try go_wp2
           go_roundg k2
           case measure => have := HJ1.out; have := HK2.out; omega
           case rel => exact ⟨(wrap64 (x15_2 + 1)), (by first | rfl | (simp; done) | (simp [*]; done)), H', ⟨by have := HJ1.out; have := HK2.out; omega⟩, ⟨(bC1 HB GE102.out)⟩⟩
         ·replace c9 := Bool.eq_false_iff.mpr c9
          subst c9
          have H1 : (some false) = some r := by rw [if_neg (show ¬ (false = true) by decide)] at H; exact H
          clear H; have H := H1; clear H1; obtain rfl := Option.some.inj H; have p101 : 0 ≤ (x15_2 : Int) := of_decide_eq_true bX; have q101 : x15_2 < (l0.length : Int) := of_decide_eq_true bX; obtain ⟨ad101, e101, hx101_0, hx101_1⟩ := at_T35 HR0.out x15_2 p101 q101
          cases e101
          replace hx101_0 := (HB.out.cell (World.block_lt_of_cell? w _ hx101_0)).trans hx101_0; replace hx101_1 := (HB.out.cell (World.block_lt_of_cell? w _ hx101_1)).trans hx101_1; replace p101 := eq_true p101; replace q101 := eq_true q101
          try go_wp2_with (first | ((with_reducible refine gate_dst (N := 4) rfl ?_); (try (refine gate_guard (by rfl) ?_; dsimp only)); refine box_event ?hg (N := 4) ?hd (cs := #[.int .i64 0, .int .i64 0]) (t := 35) ?hr ?_; (case hd => rfl); (case hg => rfl); (case hr => first | (go_simp; done) | (go_simp; rfl)); intro gb102 hg w33 hbox hb; have n0_ := Aside0.mk (below_step (bC0 HB) hb); have n1_ := Aside0.mk (hbox); have n2_ := Aside0.mk ((by rw [hg]; exact (below_size (bC0 HB)) : w.heap.size ≤ gb102)); have n3_ := Aside0.mk ((by rw [hg]; exact (below_size (bC0 HB)) : w.heap.size ≤ gb102)); clear HB; have HB := n0_; have BK102 := n1_; have GW102 := n2_; have GE102 := n3_; clear n0_ n1_ n2_ n3_; clear hb hbox hg; have hcz34_0 : w33.cell? ⟨gb102, 0, none⟩ = some (.int .i64 0) := (blk_cell BK102.out 0).trans rfl; have hcz34_1 : w33.cell? ⟨gb102, 1, none⟩ = some (.int .i64 0) := (blk_cell BK102.out 1).trans rfl; have hfz34_0 := blk_frozen BK102.out 0; have hfz34_1 := blk_frozen BK102.out 1))
          have n0_ : Aside0 (((w33.setCell ⟨gb102, 0, none⟩ (.int .i64 ((rd_T35 l0 x15_2).f0))).setCell ⟨gb102, 1, none⟩ (.int .i64 ((rd_T35 l0 x15_2).f1))).heap[gb102]? = some (.cells #[.int .i64 ((rd_T35 l0 x15_2).f0), .int .i64 ((rd_T35 l0 x15_2).f1)] 35 (0, 0))) := ⟨by (with_reducible repeat (first | refine blk_drewN ?_ _ | refine blk_drew ?_ | refine blk_alloc ?_ _)); refine blk_put (cs := #[.int .i64 ((rd_T35 l0 x15_2).f0), .int .i64 0]) ?_ 1 _ rfl; (with_reducible repeat (first | refine blk_drewN ?_ _ | refine blk_drew ?_ | refine blk_alloc ?_ _)); refine blk_put (cs := #[.int .i64 0, .int .i64 0]) ?_ 0 _ rfl; (with_reducible repeat (first | refine blk_drewN ?_ _ | refine blk_drew ?_ | refine blk_alloc ?_ _)); exact BK102.out⟩; have n1_ : Aside0 (Below w.heap.size w ((w33.setCell ⟨gb102, 0, none⟩ (.int .i64 ((rd_T35 l0 x15_2).f0))).setCell ⟨gb102, 1, none⟩ (.int .i64 ((rd_T35 l0 x15_2).f1)))) := ⟨(bC1 HB GE102.out)⟩; (try clear BK102); (try clear HB); generalize ((w33.setCell ⟨gb102, 0, none⟩ (.int .i64 ((rd_T35 l0 x15_2).f0))).setCell ⟨gb102, 1, none⟩ (.int .i64 ((rd_T35 l0 x15_2).f1))) = w35 at n0_ n1_ ⊢; have BK102 := n0_; have HB := n1_; clear n0_ n1_; have n0_ := Aside0.mk (blk_drew BK102.out); have n1_ := Aside0.mk (below_drew1 HB.out); clear BK102; clear HB; have BK102 := n0_; have HB := n1_; clear n0_ n1_; refine start_ (n := 17) (S := fun w' => w'.cell? ⟨gb102, 0, none⟩ = some (.int .i64 ((rd_T35 l0 x15_2).f0)) ∧ w'.cell? ⟨gb102, 1, none⟩ = some (.int .i64 ((rd_T35 l0 x15_2).f1))) (ds := []) #[n_,n_,n_,n_,n_,n_,n_,n_,n_,n_,n_,n_,n_,n_,n_,n_,n_] (by kernel_rfl) rfl rfl ⟨(blk_cell BK102.out 0).trans rfl, (blk_cell BK102.out 1).trans rfl⟩ (fun hHeld => ?_); refine with_tabW impl_isPath.tab6 impl_isPath.bits6 (fun HT_ HW_ => ?_); generalize w35.drew = w36 at BK102 HB hHeld ⊢; refine take_ (i := 0) (N := some 20) (v := ?_) (a' := ?_) #[y_,n_,n_,n_,n_,n_,n_,n_,n_,n_,n_,n_,n_,n_,n_,n_,n_] rfl rfl (take_ofW HT_.out HW_.out (by kernel_rfl)) (fun _ _ _ h => h) (Or.inl ⟨by rfl, ?_⟩) hHeld ?_ ?_
          rotate_left
          ·rintro w' ⟨s0, s1⟩; go_simp; with_reducible rfl
          rotate_left
          ·simp only [Act.put, List.setIfInBounds_toArray, List.set_cons_zero, List.set_cons_succ, i64_w, i32_w]; rfl
          refine one_ (i := 1) (N := some 21) #[y_,y_,n_,n_,n_,n_,n_,n_,n_,n_,n_,n_,n_,n_,n_,n_,n_] rfl rfl (one_of HT_.out (by kernel_rfl)) (by decide) (fun K hK => ?_); refine goes_ Tryd.func40 (by kernel_rfl) rfl #[.agg #[.int .i64 ((rd_T35 l0 x15_2).f0), .int .i64 ((rd_T35 l0 x15_2).f1)]] (by rfl) rfl rfl bM ?_
          with_reducible refine (impl_PtOk.calls ((rd_T35 l0 x15_2).f0) ((rd_T35 l0 x15_2).f1) false _ A8.out).mono ?_
          rintro e w37 ⟨rfl, hb⟩; refine ⟨_, rfl, ?_⟩; have n0_ := Aside0.mk (blk_below (g := gb102) (o := .cells #[.int .i64 ((rd_T35 l0 x15_2).f0), .int .i64 ((rd_T35 l0 x15_2).f1)] 35 (0, 0)) (bA BK102) hb); have n1_ := Aside0.mk (below_step (bC1 HB GE102.out) hb); clear BK102; clear HB; have BK102 := n0_; have HB := n1_; clear n0_ n1_; (try clear hb); (try clear hb2); (try clear hk); (try clear hi); refine hK.out _ _ ⟨(blk_cell BK102.out 0).trans rfl, (blk_cell BK102.out 1).trans rfl⟩ (fun hHeld => ?_); clear hK K; refine norm_ (a' := ?_) ?_ ?_
          rotate_left
          ·show Act.put _ (some 21) _ = _
           simp only [Act.put, List.setIfInBounds_toArray, List.set_cons_zero, List.set_cons_succ, i64_w, i32_w]; rfl
          refine pure_ (i := 2) (N := some 22) (v := ?_) (a' := ?_) #[y_,y_,y_,n_,n_,n_,n_,n_,n_,n_,n_,n_,n_,n_,n_,n_,n_] rfl rfl (any_of HT_.out (by kernel_rfl)) (fun _ _ _ h => h) (Or.inl ⟨by rfl, ?_⟩) ?_ ?_
          rotate_left
          ·intro w'; go_simp; with_reducible rfl
          rotate_left
          ·simp only [Act.put, List.setIfInBounds_toArray, List.set_cons_zero, List.set_cons_succ, i64_w, i32_w]; rfl
          refine pure_ (i := 3) (N := some 23) (v := ?_) (a' := ?_) #[y_,y_,y_,y_,n_,n_,n_,n_,n_,n_,n_,n_,n_,n_,n_,n_,n_] rfl rfl (any_of HT_.out (by kernel_rfl)) (fun _ _ _ h => h) (Or.inl ⟨by rfl, ?_⟩) ?_ ?_
          rotate_left
          ·intro w'; go_simp; with_reducible rfl
          rotate_left
          ·simp only [Act.put, List.setIfInBounds_toArray, List.set_cons_zero, List.set_cons_succ, i64_w, i32_w]; rfl
          refine pure_ (i := 4) (N := some 24) (v := undef) (a' := ?_) #[y_,y_,y_,y_,y_,n_,n_,n_,n_,n_,n_,n_,n_,n_,n_,n_,n_] rfl rfl (any_of HT_.out (by kernel_rfl)) (fun _ _ _ h => h) (Or.inr ⟨by rfl, rfl⟩) ?_ ?_
          rotate_left
          ·simp only [Act.put, List.setIfInBounds_toArray, List.set_cons_zero, List.set_cons_succ, i64_w, i32_w]; rfl
          refine pure_ (i := 5) (N := some 25) (v := undef) (a' := ?_) #[y_,y_,y_,y_,y_,y_,n_,n_,n_,n_,n_,n_,n_,n_,n_,n_,n_] rfl rfl (any_of HT_.out (by kernel_rfl)) (fun _ _ _ h => h) (Or.inr ⟨by rfl, rfl⟩) ?_ ?_
          rotate_left
          ·simp only [Act.put, List.setIfInBounds_toArray, List.set_cons_zero, List.set_cons_succ, i64_w, i32_w]; rfl
          refine pure_ (i := 6) (N := some 26) (v := undef) (a' := ?_) #[y_,y_,y_,y_,y_,y_,y_,n_,n_,n_,n_,n_,n_,n_,n_,n_,n_] rfl rfl (any_of HT_.out (by kernel_rfl)) (fun _ _ _ h => h) (Or.inr ⟨by rfl, rfl⟩) ?_ ?_
          rotate_left
          ·simp only [Act.put, List.setIfInBounds_toArray, List.set_cons_zero, List.set_cons_succ, i64_w, i32_w]; rfl
          refine pure_ (i := 7) (N := some 27) (v := undef) (a' := ?_) #[y_,y_,y_,y_,y_,y_,y_,y_,n_,n_,n_,n_,n_,n_,n_,n_,n_] rfl rfl (any_of HT_.out (by kernel_rfl)) (fun _ _ _ h => h) (Or.inr ⟨by rfl, rfl⟩) ?_ ?_
          rotate_left
          ·simp only [Act.put, List.setIfInBounds_toArray, List.set_cons_zero, List.set_cons_succ, i64_w, i32_w]; rfl
          refine pure_ (i := 8) (N := some 28) (v := undef) (a' := ?_) #[y_,y_,y_,y_,y_,y_,y_,y_,y_,n_,n_,n_,n_,n_,n_,n_,n_] rfl rfl (any_of HT_.out (by kernel_rfl)) (fun _ _ _ h => h) (Or.inr ⟨by rfl, rfl⟩) ?_ ?_
          rotate_left
          ·simp only [Act.put, List.setIfInBounds_toArray, List.set_cons_zero, List.set_cons_succ, i64_w, i32_w]; rfl
          refine pure_ (i := 9) (N := some 29) (v := undef) (a' := ?_) #[y_,y_,y_,y_,y_,y_,y_,y_,y_,y_,n_,n_,n_,n_,n_,n_,n_] rfl rfl (any_of HT_.out (by kernel_rfl)) (fun _ _ _ h => h) (Or.inr ⟨by rfl, rfl⟩) ?_ ?_
          rotate_left
          ·simp only [Act.put, List.setIfInBounds_toArray, List.set_cons_zero, List.set_cons_succ, i64_w, i32_w]; rfl
          refine pure_ (i := 10) (N := some 30) (v := undef) (a' := ?_) #[y_,y_,y_,y_,y_,y_,y_,y_,y_,y_,y_,n_,n_,n_,n_,n_,n_] rfl rfl (any_of HT_.out (by kernel_rfl)) (fun _ _ _ h => h) (Or.inr ⟨by rfl, rfl⟩) ?_ ?_
          rotate_left
          ·simp only [Act.put, List.setIfInBounds_toArray, List.set_cons_zero, List.set_cons_succ, i64_w, i32_w]; rfl
          refine pure_ (i := 11) (N := some 31) (v := undef) (a' := ?_) #[y_,y_,y_,y_,y_,y_,y_,y_,y_,y_,y_,y_,n_,n_,n_,n_,n_] rfl rfl (any_of HT_.out (by kernel_rfl)) (fun _ _ _ h => h) (Or.inr ⟨by rfl, rfl⟩) ?_ ?_
          rotate_left
          ·simp only [Act.put, List.setIfInBounds_toArray, List.set_cons_zero, List.set_cons_succ, i64_w, i32_w]; rfl
          refine pure_ (i := 12) (N := some 32) (v := undef) (a' := ?_) #[y_,y_,y_,y_,y_,y_,y_,y_,y_,y_,y_,y_,y_,n_,n_,n_,n_] rfl rfl (any_of HT_.out (by kernel_rfl)) (fun _ _ _ h => h) (Or.inr ⟨by rfl, rfl⟩) ?_ ?_
          rotate_left
          ·simp only [Act.put, List.setIfInBounds_toArray, List.set_cons_zero, List.set_cons_succ, i64_w, i32_w]; rfl
          refine pure_ (i := 13) (N := some 33) (v := undef) (a' := ?_) #[y_,y_,y_,y_,y_,y_,y_,y_,y_,y_,y_,y_,y_,y_,n_,n_,n_] rfl rfl (any_of HT_.out (by kernel_rfl)) (fun _ _ _ h => h) (Or.inr ⟨by rfl, rfl⟩) ?_ ?_
          rotate_left
          ·simp only [Act.put, List.setIfInBounds_toArray, List.set_cons_zero, List.set_cons_succ, i64_w, i32_w]; rfl
          refine pure_ (i := 14) (N := some 34) (v := undef) (a' := ?_) #[y_,y_,y_,y_,y_,y_,y_,y_,y_,y_,y_,y_,y_,y_,y_,n_,n_] rfl rfl (any_of HT_.out (by kernel_rfl)) (fun _ _ _ h => h) (Or.inr ⟨by rfl, rfl⟩) ?_ ?_
          rotate_left
          ·simp only [Act.put, List.setIfInBounds_toArray, List.set_cons_zero, List.set_cons_succ, i64_w, i32_w]; rfl
          refine pure_ (i := 15) (N := some 35) (v := undef) (a' := ?_) #[y_,y_,y_,y_,y_,y_,y_,y_,y_,y_,y_,y_,y_,y_,y_,y_,n_] rfl rfl (any_of HT_.out (by kernel_rfl)) (fun _ _ _ h => h) (Or.inr ⟨by rfl, rfl⟩) ?_ ?_
          rotate_left
          ·simp only [Act.put, List.setIfInBounds_toArray, List.set_cons_zero, List.set_cons_succ, i64_w, i32_w]; rfl
          refine pure_ (i := 16) (N := some 36) (v := ?_) (a' := ?_) #[y_,y_,y_,y_,y_,y_,y_,y_,y_,y_,y_,y_,y_,y_,y_,y_,y_] rfl rfl (any_of HT_.out (by kernel_rfl)) (fun _ _ _ h => h) (Or.inl ⟨by rfl, ?_⟩) ?_ ?_
          rotate_left
          ·intro w'; go_simp; with_reducible rfl
          rotate_left
          ·simp only [Act.put, List.setIfInBounds_toArray, List.set_cons_zero, List.set_cons_succ, i64_w, i32_w]; rfl
          refine done_ (done_of HT_.out (by kernel_rfl)) ?_
          try go_wp2
          go_ret
          exact ⟨bE, (bC1 HB GE102.out)⟩
        ·rw [if_neg c7] at H; exact absurd H (by simp)
       ·rw [if_neg c6] at H; exact absurd H (by simp)
      ·rw [if_neg c5] at H
       have c5b0 : decide (x15_2 < (l0.length : Int)) = false := decide_eq_false c5; clear c5; obtain rfl := Option.some.inj H; go_wp2; go_ret
       exact ⟨bE, (bC0 HB)⟩
set_option linter.unusedVariables false
set_option linter.unusedSimpArgs false
def impl_goesOn.f (a0_0 : Int) (a0_1 : Int) (a1_0 : Int) (a1_1 : Int) (a2_0 : Int) (a2_1 : Int) : Option (Bool) := if (wrap64 (a2_0 - a1_0)) = (wrap64 (a1_0 - a0_0)) then (some ((wrap64 (a2_1 - a1_1)) == (wrap64 (a1_1 - a0_1)))) else (some false)
set_option maxHeartbeats 8000000 in
set_option maxRecDepth 100000 in
theorem impl_goesOn.calls (a0_0 : Int) (a0_1 : Int) (a1_0 : Int) (a1_1 : Int) (a2_0 : Int) (a2_1 : Int) (r : Bool) (w : World) (h : impl_goesOn.f a0_0 a0_1 a1_0 a1_1 a2_0 a2_1 = some r) :
  Calls Tryd.prog 47 #[.agg #[.int .i64 a0_0, .int .i64 a0_1], .agg #[.int .i64 a1_0, .int .i64 a1_1], .agg #[.int .i64 a2_0, .int .i64 a2_1]] w fun e w' => e = .returned (.bool r) ∧ Below w.heap.size w w' := by
 have hu35 := Tryd.underlying35; have HB := Aside0.mk (Below.refl w.heap.size w); have H : (if (wrap64 (a2_0 - a1_0)) = (wrap64 (a1_0 - a0_0)) then (some ((wrap64 (a2_1 - a1_1)) == (wrap64 (a1_1 - a0_1)))) else (some false)) = some r := h; clear h
 by_cases c4 : (wrap64 (a2_0 - a1_0)) = (wrap64 (a1_0 - a0_0))
 ·rw [if_pos c4] at H
  have c4b0 : ((wrap64 (a2_0 - a1_0)) == (wrap64 (a1_0 - a0_0))) = true := beq_iff_eq.mpr c4; have c4b1 : ((wrap64 (a2_0 - a1_0)) != (wrap64 (a1_0 - a0_0))) = false := bne_eq_false_iff_eq.mpr c4; clear c4; obtain rfl := Option.some.inj H; go_enter Tryd.func47, Tryd.ntmps47; go_wp2_with (first | ((with_reducible refine gate_dst (N := 3) rfl ?_); refine box_event ?hg (N := 3) ?hd (cs := #[.int .i64 a0_0, .int .i64 a0_1]) (t := 35) ?hr ?_; (case hd => rfl); (case hg => rfl); (case hr => first | (go_simp; done) | (go_simp; rfl)); intro gb101 hg w5 hbox hb; have n0_ := Aside0.mk (below_step (bC0 HB) hb); have n1_ := Aside0.mk (hbox); have n2_ := Aside0.mk ((by rw [hg]; exact (below_size (bC0 HB)) : w.heap.size ≤ gb101)); have n3_ := Aside0.mk ((by rw [hg]; exact (below_size (bC0 HB)) : w.heap.size ≤ gb101)); clear HB; have HB := n0_; have BK101 := n1_; have GW101 := n2_; have GE101 := n3_; clear n0_ n1_ n2_ n3_; clear hb hbox hg) | ((with_reducible refine gate_dst (N := 4) rfl ?_); refine box_event ?hg (N := 4) ?hd (cs := #[.int .i64 a1_0, .int .i64 a1_1]) (t := 35) ?hr ?_; (case hd => rfl); (case hg => rfl); (case hr => first | (go_simp; done) | (go_simp; rfl)); intro gb102 hg w6 hbox hb; have n0_ := Aside0.mk (blk_below (g := gb101) (o := .cells #[.int .i64 a0_0, .int .i64 a0_1] 35 (0, 0)) (bA BK101) hb); have n1_ := Aside0.mk (below_step (bC1 HB GE101.out) hb); have n2_ := Aside0.mk (hbox); have n3_ := Aside0.mk ((by rw [hg]; exact (below_size (bC1 HB GE101.out)) : w.heap.size ≤ gb102)); have n4_ := Aside0.mk ((by rw [hg]; exact (below_size (bC1 HB GE101.out)) : w.heap.size ≤ gb102)); have n5_ := Aside0.mk ((by rw [hg]; exact Nat.ne_of_lt (blk_lt (g := gb101) (o := .cells #[.int .i64 a0_0, .int .i64 a0_1] 35 (0, 0)) (bA BK101)) : gb101 ≠ gb102)); have n6_ := Aside0.mk ((by rw [hg]; exact Nat.ne_of_gt (blk_lt (g := gb101) (o := .cells #[.int .i64 a0_0, .int .i64 a0_1] 35 (0, 0)) (bA BK101)) : gb102 ≠ gb101)); clear BK101; clear HB; have BK101 := n0_; have HB := n1_; have BK102 := n2_; have GW102 := n3_; have GE102 := n4_; have NB101_102 := n5_; have NB102_101 := n6_; clear n0_ n1_ n2_ n3_ n4_ n5_ n6_; clear hb hbox hg) | ((with_reducible refine gate_dst (N := 5) rfl ?_); refine box_event ?hg (N := 5) ?hd (cs := #[.int .i64 a2_0, .int .i64 a2_1]) (t := 35) ?hr ?_; (case hd => rfl); (case hg => rfl); (case hr => first | (go_simp; done) | (go_simp; rfl)); intro gb103 hg w7 hbox hb; have n0_ := Aside0.mk (blk_below (g := gb101) (o := .cells #[.int .i64 a0_0, .int .i64 a0_1] 35 (0, 0)) (bA BK101) hb); have n1_ := Aside0.mk (blk_below (g := gb102) (o := .cells #[.int .i64 a1_0, .int .i64 a1_1] 35 (0, 0)) (bA BK102) hb); have n2_ := Aside0.mk (below_step (bC2 HB GE101.out GE102.out) hb); have n3_ := Aside0.mk (hbox); have n4_ := Aside0.mk ((by rw [hg]; exact (below_size (bC2 HB GE101.out GE102.out)) : w.heap.size ≤ gb103)); have n5_ := Aside0.mk ((by rw [hg]; exact (below_size (bC2 HB GE101.out GE102.out)) : w.heap.size ≤ gb103)); have n6_ := Aside0.mk ((by rw [hg]; exact Nat.ne_of_lt (blk_lt (g := gb101) (o := .cells #[.int .i64 a0_0, .int .i64 a0_1] 35 (0, 0)) (bA BK101)) : gb101 ≠ gb103)); have n7_ := Aside0.mk ((by rw [hg]; exact Nat.ne_of_gt (blk_lt (g := gb101) (o := .cells #[.int .i64 a0_0, .int .i64 a0_1] 35 (0, 0)) (bA BK101)) : gb103 ≠ gb101)); have n8_ := Aside0.mk ((by rw [hg]; exact Nat.ne_of_lt (blk_lt (g := gb102) (o := .cells #[.int .i64 a1_0, .int .i64 a1_1] 35 (0, 0)) (bA BK102)) : gb102 ≠ gb103)); have n9_ := Aside0.mk ((by rw [hg]; exact Nat.ne_of_gt (blk_lt (g := gb102) (o := .cells #[.int .i64 a1_0, .int .i64 a1_1] 35 (0, 0)) (bA BK102)) : gb103 ≠ gb102)); clear BK101; clear BK102; clear HB; have BK101 := n0_; have BK102 := n1_; have HB := n2_; have BK103 := n3_; have GW103 := n4_; have GE103 := n5_; have NB101_103 := n6_; have NB103_101 := n7_; have NB102_103 := n8_; have NB103_102 := n9_; clear n0_ n1_ n2_ n3_ n4_ n5_ n6_ n7_ n8_ n9_; clear hb hbox hg; have hnb8 := NB103_101.out; have hnc8 := NB101_103.out; have hnb9 := NB103_102.out; have hnc9 := NB102_103.out; have hcz10_0 : w7.cell? ⟨gb103, 0, none⟩ = some (.int .i64 a2_0) := (blk_cell BK103.out 0).trans rfl; have hcz10_1 : w7.cell? ⟨gb103, 1, none⟩ = some (.int .i64 a2_1) := (blk_cell BK103.out 1).trans rfl; have hfz10_0 := blk_frozen BK103.out 0; have hfz10_1 := blk_frozen BK103.out 1; have hnb11 := NB102_101.out; have hnc11 := NB101_102.out; have hcz12_0 : w7.cell? ⟨gb102, 0, none⟩ = some (.int .i64 a1_0) := (blk_cell BK102.out 0).trans rfl; have hcz12_1 : w7.cell? ⟨gb102, 1, none⟩ = some (.int .i64 a1_1) := (blk_cell BK102.out 1).trans rfl; have hfz12_0 := blk_frozen BK102.out 0; have hfz12_1 := blk_frozen BK102.out 1; have hcz13_0 : w7.cell? ⟨gb101, 0, none⟩ = some (.int .i64 a0_0) := (blk_cell BK101.out 0).trans rfl; have hcz13_1 : w7.cell? ⟨gb101, 1, none⟩ = some (.int .i64 a0_1) := (blk_cell BK101.out 1).trans rfl; have hfz13_0 := blk_frozen BK101.out 0; have hfz13_1 := blk_frozen BK101.out 1))
  go_ret
  exact ⟨bE, (bC3 HB GE101.out GE102.out GE103.out)⟩
 ·rw [if_neg c4] at H
  have c4b0 : ((wrap64 (a2_0 - a1_0)) == (wrap64 (a1_0 - a0_0))) = false := beq_eq_false_iff_ne.mpr c4; have c4b1 : ((wrap64 (a2_0 - a1_0)) != (wrap64 (a1_0 - a0_0))) = true := bne_iff_ne.mpr c4; obtain rfl := Option.some.inj H; go_enter Tryd.func47, Tryd.ntmps47; go_wp2_with (first | ((with_reducible refine gate_dst (N := 3) rfl ?_); refine box_event ?hg (N := 3) ?hd (cs := #[.int .i64 a0_0, .int .i64 a0_1]) (t := 35) ?hr ?_; (case hd => rfl); (case hg => rfl); (case hr => first | (go_simp; done) | (go_simp; rfl)); intro gb101 hg w14 hbox hb; have n0_ := Aside0.mk (below_step (bC0 HB) hb); have n1_ := Aside0.mk (hbox); have n2_ := Aside0.mk ((by rw [hg]; exact (below_size (bC0 HB)) : w.heap.size ≤ gb101)); have n3_ := Aside0.mk ((by rw [hg]; exact (below_size (bC0 HB)) : w.heap.size ≤ gb101)); clear HB; have HB := n0_; have BK101 := n1_; have GW101 := n2_; have GE101 := n3_; clear n0_ n1_ n2_ n3_; clear hb hbox hg) | ((with_reducible refine gate_dst (N := 4) rfl ?_); refine box_event ?hg (N := 4) ?hd (cs := #[.int .i64 a1_0, .int .i64 a1_1]) (t := 35) ?hr ?_; (case hd => rfl); (case hg => rfl); (case hr => first | (go_simp; done) | (go_simp; rfl)); intro gb102 hg w15 hbox hb; have n0_ := Aside0.mk (blk_below (g := gb101) (o := .cells #[.int .i64 a0_0, .int .i64 a0_1] 35 (0, 0)) (bA BK101) hb); have n1_ := Aside0.mk (below_step (bC1 HB GE101.out) hb); have n2_ := Aside0.mk (hbox); have n3_ := Aside0.mk ((by rw [hg]; exact (below_size (bC1 HB GE101.out)) : w.heap.size ≤ gb102)); have n4_ := Aside0.mk ((by rw [hg]; exact (below_size (bC1 HB GE101.out)) : w.heap.size ≤ gb102)); have n5_ := Aside0.mk ((by rw [hg]; exact Nat.ne_of_lt (blk_lt (g := gb101) (o := .cells #[.int .i64 a0_0, .int .i64 a0_1] 35 (0, 0)) (bA BK101)) : gb101 ≠ gb102)); have n6_ := Aside0.mk ((by rw [hg]; exact Nat.ne_of_gt (blk_lt (g := gb101) (o := .cells #[.int .i64 a0_0, .int .i64 a0_1] 35 (0, 0)) (bA BK101)) : gb102 ≠ gb101)); clear BK101; clear HB; have BK101 := n0_; have HB := n1_; have BK102 := n2_; have GW102 := n3_; have GE102 := n4_; have NB101_102 := n5_; have NB102_101 := n6_; clear n0_ n1_ n2_ n3_ n4_ n5_ n6_; clear hb hbox hg) | ((with_reducible refine gate_dst (N := 5) rfl ?_); refine box_event ?hg (N := 5) ?hd (cs := #[.int .i64 a2_0, .int .i64 a2_1]) (t := 35) ?hr ?_; (case hd => rfl); (case hg => rfl); (case hr => first | (go_simp; done) | (go_simp; rfl)); intro gb103 hg w16 hbox hb; have n0_ := Aside0.mk (blk_below (g := gb101) (o := .cells #[.int .i64 a0_0, .int .i64 a0_1] 35 (0, 0)) (bA BK101) hb); have n1_ := Aside0.mk (blk_below (g := gb102) (o := .cells #[.int .i64 a1_0, .int .i64 a1_1] 35 (0, 0)) (bA BK102) hb); have n2_ := Aside0.mk (below_step (bC2 HB GE101.out GE102.out) hb); have n3_ := Aside0.mk (hbox); have n4_ := Aside0.mk ((by rw [hg]; exact (below_size (bC2 HB GE101.out GE102.out)) : w.heap.size ≤ gb103)); have n5_ := Aside0.mk ((by rw [hg]; exact (below_size (bC2 HB GE101.out GE102.out)) : w.heap.size ≤ gb103)); have n6_ := Aside0.mk ((by rw [hg]; exact Nat.ne_of_lt (blk_lt (g := gb101) (o := .cells #[.int .i64 a0_0, .int .i64 a0_1] 35 (0, 0)) (bA BK101)) : gb101 ≠ gb103)); have n7_ := Aside0.mk ((by rw [hg]; exact Nat.ne_of_gt (blk_lt (g := gb101) (o := .cells #[.int .i64 a0_0, .int .i64 a0_1] 35 (0, 0)) (bA BK101)) : gb103 ≠ gb101)); have n8_ := Aside0.mk ((by rw [hg]; exact Nat.ne_of_lt (blk_lt (g := gb102) (o := .cells #[.int .i64 a1_0, .int .i64 a1_1] 35 (0, 0)) (bA BK102)) : gb102 ≠ gb103)); have n9_ := Aside0.mk ((by rw [hg]; exact Nat.ne_of_gt (blk_lt (g := gb102) (o := .cells #[.int .i64 a1_0, .int .i64 a1_1] 35 (0, 0)) (bA BK102)) : gb103 ≠ gb102)); clear BK101; clear BK102; clear HB; have BK101 := n0_; have BK102 := n1_; have HB := n2_; have BK103 := n3_; have GW103 := n4_; have GE103 := n5_; have NB101_103 := n6_; have NB103_101 := n7_; have NB102_103 := n8_; have NB103_102 := n9_; clear n0_ n1_ n2_ n3_ n4_ n5_ n6_ n7_ n8_ n9_; clear hb hbox hg; have hnb17 := NB103_101.out; have hnc17 := NB101_103.out; have hnb18 := NB103_102.out; have hnc18 := NB102_103.out; have hcz19_0 : w16.cell? ⟨gb103, 0, none⟩ = some (.int .i64 a2_0) := (blk_cell BK103.out 0).trans rfl; have hcz19_1 : w16.cell? ⟨gb103, 1, none⟩ = some (.int .i64 a2_1) := (blk_cell BK103.out 1).trans rfl; have hfz19_0 := blk_frozen BK103.out 0; have hfz19_1 := blk_frozen BK103.out 1; have hnb20 := NB102_101.out; have hnc20 := NB101_102.out; have hcz21_0 : w16.cell? ⟨gb102, 0, none⟩ = some (.int .i64 a1_0) := (blk_cell BK102.out 0).trans rfl; have hcz21_1 : w16.cell? ⟨gb102, 1, none⟩ = some (.int .i64 a1_1) := (blk_cell BK102.out 1).trans rfl; have hfz21_0 := blk_frozen BK102.out 0; have hfz21_1 := blk_frozen BK102.out 1; have hcz22_0 : w16.cell? ⟨gb101, 0, none⟩ = some (.int .i64 a0_0) := (blk_cell BK101.out 0).trans rfl; have hcz22_1 : w16.cell? ⟨gb101, 1, none⟩ = some (.int .i64 a0_1) := (blk_cell BK101.out 1).trans rfl; have hfz22_0 := blk_frozen BK101.out 0; have hfz22_1 := blk_frozen BK101.out 1))
  go_ret
  exact ⟨bE, (bC3 HB GE101.out GE102.out GE103.out)⟩
set_option linter.unusedVariables false
set_option linter.unusedSimpArgs false
def impl_CodeTurns.l0 : Nat → List (S35) → List (S35) → Int → List (S35) → Int → Int → Option ((List (S35)))
  | 0, _, _, _, _, _, _ => none
  | k + 1, x0, x3, x4, x13, x14, x15 => if x15 < x14 then (if 0 ≤ x15 then (if x15 < (x13.length : Int) then (if x15 = 0 then (if x3.length < 8796093022208 then (impl_CodeTurns.l0 k x0 (x3 ++ [(⟨(rd_T35 x13 x15).f0, (rd_T35 x13 x15).f1⟩ : S35)]) x4 x13 x14 (wrap64 (x15 + 1))) else (none)) else (if x15 = x4 then (if x3.length < 8796093022208 then (impl_CodeTurns.l0 k x0 (x3 ++ [(⟨(rd_T35 x13 x15).f0, (rd_T35 x13 x15).f1⟩ : S35)]) x4 x13 x14 (wrap64 (x15 + 1))) else (none)) else (if 0 ≤ (wrap64 (x15 - 1)) then (if (wrap64 (x15 - 1)) < (x0.length : Int) then (if 0 ≤ (wrap64 (x15 + 1)) then (if (wrap64 (x15 + 1)) < (x0.length : Int) then ((impl_goesOn.f ((rd_T35 x0 (wrap64 (x15 - 1))).f0) ((rd_T35 x0 (wrap64 (x15 - 1))).f1) ((rd_T35 x13 x15).f0) ((rd_T35 x13 x15).f1) ((rd_T35 x0 (wrap64 (x15 + 1))).f0) ((rd_T35 x0 (wrap64 (x15 + 1))).f1)).bind fun t112 => (if t112 = true then (impl_CodeTurns.l0 k x0 x3 x4 x13 x14 (wrap64 (x15 + 1))) else (if x3.length < 8796093022208 then (impl_CodeTurns.l0 k x0 (x3 ++ [(⟨(rd_T35 x13 x15).f0, (rd_T35 x13 x15).f1⟩ : S35)]) x4 x13 x14 (wrap64 (x15 + 1))) else (none)))) else (none)) else (none)) else (none)) else (none)))) else (none)) else (none)) else (some x3)
def impl_CodeTurns.f (k : Nat) (l0 : List (S35)) : Option ((List (S35))) := (impl_isPath.f k l0).bind fun t101 => (if t101 = true then (impl_CodeTurns.l0 k l0 ([] : List (S35)) (wrap64 ((l0.length : Int) - 1)) l0 (l0.length : Int) 0) else (some ([] : List (S35))))
theorem impl_CodeTurns.mono_l : ∀ k, (∀ y0 y1 y2 y3 y4 y5, LeO (impl_CodeTurns.l0 k y0 y1 y2 y3 y4 y5) (impl_CodeTurns.l0 (k + 1) y0 y1 y2 y3 y4 y5))
  | 0 => fun _ _ _ _ _ _ r h => by simp [impl_CodeTurns.l0] at h
  | k + 1 => by
    have ih0 := impl_CodeTurns.mono_l k
    · intro y0 y1 y2 y3 y4 y5
      unfold impl_CodeTurns.l0
      repeat' first
      | (with_reducible exact ih0 _ _ _ _ _ _)
      | (with_reducible exact impl_isPath.mono _ _)
      | (with_reducible exact LeO.refl _)
      | (with_reducible exact LeO.none _)
      | (with_reducible refine LeO.ite ?_ ?_)
      | (with_reducible refine LeO.bind ?_ (fun _ => ?_))
      | exact ih0 _ _ _ _ _ _
      | exact impl_isPath.mono _ _
      | exact LeO.none _
      | refine LeO.ite ?_ ?_
      | refine LeO.bind ?_ (fun _ => ?_)
theorem impl_CodeTurns.mono : ∀ a0 k, LeO (impl_CodeTurns.f k a0) (impl_CodeTurns.f (k + 1) a0) := by
  intro a0 k
  have ih0 := impl_CodeTurns.mono_l k
  unfold impl_CodeTurns.f
  repeat' first
      | (with_reducible exact ih0 _ _ _ _ _ _)
      | (with_reducible exact impl_isPath.mono _ _)
      | (with_reducible exact LeO.refl _)
      | (with_reducible exact LeO.none _)
      | (with_reducible refine LeO.ite ?_ ?_)
      | (with_reducible refine LeO.bind ?_ (fun _ => ?_))
      | exact ih0 _ _ _ _ _ _
      | exact impl_isPath.mono _ _
      | exact LeO.none _
      | refine LeO.ite ?_ ?_
      | refine LeO.bind ?_ (fun _ => ?_)
def impl_CodeTurns.T8 : Bool × List (List Nat × List Nat) := (true, [([], []), ([0], [0]), ([1], [1]), ([2], [2]), ([2], [2]), ([3, 4, 2], [2, 3, 4]), ([2, 5], [2, 5]), ([6, 2], [6]), ([7], [7]), ([7], [7]), ([9, 7], [7, 9]), ([8, 10, 7], [7, 8, 10]), ([11, 7], [7, 11]), ([7], [7]), ([7], [7]), ([7], [7]), ([15, 7], [7, 15]), ([14, 16, 7], [7, 14, 16]), ([17, 7], [7, 17]), ([12, 13, 18, 7, 7], [7, 12, 13, 18]), ([19, 7], [7, 19]), ([7, 20], [7, 20])])
def impl_CodeTurns.B8 : List Nat := [0, 1, 3, 7, 7, 31, 63, 127, 255, 255, 767, 2047, 4095, 255, 255, 255, 33023, 114943, 246015, 524287, 1048575, 2097151]
theorem impl_CodeTurns.tab8 : rtab .any (opsOf Tryd.f22 8) = impl_CodeTurns.T8 := by kernel_rfl
theorem impl_CodeTurns.bits8 : waitsOk impl_CodeTurns.T8.2 impl_CodeTurns.B8 = true := by kernel_rfl
abbrev impl_CodeTurns.y_ : Bool := true
abbrev impl_CodeTurns.n_ : Bool := false
set_option maxHeartbeats 8000000 in
set_option maxRecDepth 100000 in
theorem impl_CodeTurns.calls (k : Nat) (A0 : Option Addr) (c0 : Nat) (l0 : List (S35)) (r : List (S35)) (w : World) (hr0 : Kd.C k35 w A0 l0.length l0) (hc0 : l0.length ≤ c0) (h : impl_CodeTurns.f k l0 = some r) :
  Calls Tryd.prog 22 #[.slice A0 l0.length c0] w fun e w' => ∃ v0_ : Value, e = .returned (v0_) ∧ Kd.R k35 35 w' w.heap.size (fun _ => True) v0_ r ∧ Below w.heap.size w w' := by
 have hu35 := Tryd.underlying35; have HR0 := Aside0.mk hr0; have HC0 := Aside0.mk hc0; clear hr0 hc0; have HB := Aside0.mk (Below.refl w.heap.size w); have H : ((impl_isPath.f k l0).bind fun t101 => (if t101 = true then (impl_CodeTurns.l0 k l0 ([] : List (S35)) (wrap64 ((l0.length : Int) - 1)) l0 (l0.length : Int) 0) else (some ([] : List (S35))))) = some r := h; clear h; replace H := Option.bind_eq_some_iff.mp H; obtain ⟨t101, A20, H⟩ := H; replace H : (if t101 = true then (impl_CodeTurns.l0 k l0 ([] : List (S35)) (wrap64 ((l0.length : Int) - 1)) l0 (l0.length : Int) 0) else (some ([] : List (S35)))) = some r := H; have A2 := Aside0.mk A20; clear A20
 by_cases c3 : t101 = true
 ·subst c3
  have H1 : (impl_CodeTurns.l0 k l0 ([] : List (S35)) (wrap64 ((l0.length : Int) - 1)) l0 (l0.length : Int) 0) = some r := by rw [if_pos rfl] at H; exact H
  clear H; have H := H1; clear H1; have H' := Aside0.mk H; clear H; go_enter Tryd.func22, Tryd.ntmps22; go_wp2_with (first | ((with_reducible refine gate_callee (f := 42) rfl ?_); refine goesL_ (some 8) rfl rfl Tryd.func42 (by kernel_rfl) rfl #[.slice A0 l0.length c0] rfl bM ?_; (with_reducible refine (impl_isPath.calls k _ _ l0 true _ ?side1 ?side2 A2.out).mono ?_); (case side1 => repeat (first | exact HR0.out | (with_reducible refine Kd.C_alloc ?_ _) | (with_reducible refine Kd.C_drewN ?_ _) | (with_reducible refine Kd.C_drew ?_))); (case side2 => exact HC0.out); rintro e w4 ⟨rfl, hb⟩; refine ⟨_, rfl, ?_⟩; have n0_ := Aside0.mk (below_step (bC0 HB) hb); clear HB; have HB := n0_; clear n0_; (try clear hb); (try clear hb2); (try clear hk); (try clear hi))); go_loopg [3, 15] k (fun kq v3 v15 w' => ∃ (x3_1 : List (S35)) (x15_1 : Int), v15 = .int .i64 x15_1 ∧ Aside0 (impl_CodeTurns.l0 kq l0 x3_1 (wrap64 ((l0.length : Int) - 1)) l0 (l0.length : Int) x15_1 = some r) ∧ Aside0 (kq ≤ k) ∧ Aside0 (Kd.R k35 35 w' w.heap.size (fun _ => True) v3 x3_1) ∧ Aside0 (Below w.heap.size w w'))
  case atStart => exact ⟨(([] : List (S35))), (0), (by first | rfl | (simp; done) | (simp [*]; done)), H', ⟨Nat.le_refl _⟩, ⟨by first | exact Kd.R_nil _ _ _ _ _ | exact Kd.N_nil _ _ _ _ _ | exact Kd.V_nil _ _ _ _ _ | exact Kd.Q_nil _ _ _ _ _ | exact Kd.S_nil _ _ _ _ _⟩, ⟨(bC0 HB)⟩⟩
  case round =>
   clear H'
   try clear c2
   try clear p2
   try clear c3
   try clear c4
   obtain ⟨x3_1, x15_1, rfl, HA, HK1, HO_3, HB⟩ := hrel
   cases gk with
   | zero => exact absurd HA.out (by simp [impl_CodeTurns.l0])
   | succ k1 =>
    have H := HA.out; clear HA; simp only [impl_CodeTurns.l0] at H
    by_cases c5 : x15_1 < (l0.length : Int)
    ·rw [if_pos c5] at H
     have c5b0 : decide (x15_1 < (l0.length : Int)) = true := decide_eq_true c5; clear c5
     by_cases c6 : 0 ≤ x15_1
     ·rw [if_pos c6] at H
      have c6b0 : decide (0 ≤ x15_1) = true := decide_eq_true c6; clear c6
      by_cases c7 : x15_1 < (l0.length : Int)
      ·rw [if_pos c7] at H
       have c7b0 : decide (x15_1 < (l0.length : Int)) = true := decide_eq_true c7; clear c7
       by_cases c8 : x15_1 = 0
       ·rw [if_pos c8] at H
        have c8b0 : (x15_1 == 0) = true := beq_iff_eq.mpr c8; have c8b1 : (x15_1 != 0) = false := bne_eq_false_iff_eq.mpr c8; clear c8
        by_cases c9 : x3_1.length < 8796093022208
        ·rw [if_pos c9] at H
         have LMc9 := Aside0.mk c9; clear c9; obtain ⟨y104, hy104⟩ : ∃ y_ : List (S35), y_ = (x3_1 ++ [(⟨(rd_T35 l0 x15_1).f0, (rd_T35 l0 x15_1).f1⟩ : S35)]) := ⟨_, rfl⟩
         replace H : (impl_CodeTurns.l0 k1 l0 y104 (wrap64 ((l0.length : Int) - 1)) l0 (l0.length : Int) (wrap64 (x15_1 + 1))) = some r := by first | (rw [hy104]; with_reducible exact H) | (have H2_ := (Option.bind_some _ _).symm.trans H; rw [hy104]; with_reducible exact H2_) | (have H2_ := (Option.bind_some _ _).symm.trans H; with_reducible exact H2_) | with_reducible exact H | (rw [hy104]; exact H) | exact H
         have Ny104 := Aside0.mk hy104; clear hy104; have H' := Aside0.mk H; clear H; have p102 : 0 ≤ (x15_1 : Int) := of_decide_eq_true bX; have q102 : x15_1 < (l0.length : Int) := of_decide_eq_true bX; obtain ⟨ad102, e102, hx102_0, hx102_1⟩ := at_T35 HR0.out x15_1 p102 q102
         cases e102
         replace hx102_0 := (HB.out.cell (World.block_lt_of_cell? w _ hx102_0)).trans hx102_0; replace hx102_1 := (HB.out.cell (World.block_lt_of_cell? w _ hx102_1)).trans hx102_1; replace p102 := eq_true p102; replace q102 := eq_true q102
         try go_wp2_with (first | ((with_reducible refine gate_dst (N := 6) rfl ?_); refine box_event ?hg (N := 6) ?hd (cs := #[.int .i64 0, .int .i64 0]) (t := 35) ?hr ?_; (case hd => rfl); (case hg => rfl); (case hr => first | (go_simp; done) | (go_simp; rfl)); intro gb103 hg w10 hbox hb; have n0_ := Aside0.mk (Kd.R_below (Kd.R_elderB (bR HO_3) gb103 (Nat.le_of_eq hg.symm)) hb); have n1_ := Aside0.mk (below_step (bC0 HB) hb); have n2_ := Aside0.mk (hbox); have n3_ := Aside0.mk ((by rw [hg]; exact (below_size (bC0 HB)) : w.heap.size ≤ gb103)); have n4_ := Aside0.mk ((by rw [hg]; exact (below_size (bC0 HB)) : w.heap.size ≤ gb103)); clear HO_3; clear HB; have HO_3 := n0_; have HB := n1_; have BK103 := n2_; have GW103 := n3_; have GE103 := n4_; clear n0_ n1_ n2_ n3_ n4_; clear hb hbox hg; have hcz11_0 : w10.cell? ⟨gb103, 0, none⟩ = some (.int .i64 0) := (blk_cell BK103.out 0).trans rfl; have hcz11_1 : w10.cell? ⟨gb103, 1, none⟩ = some (.int .i64 0) := (blk_cell BK103.out 1).trans rfl; have hfz11_0 := blk_frozen BK103.out 0; have hfz11_1 := blk_frozen BK103.out 1))
         have n0_ : Aside0 (Kd.R k35 35 ((w10.setCell ⟨gb103, 0, none⟩ (.int .i64 ((rd_T35 l0 x15_1).f0))).setCell ⟨gb103, 1, none⟩ (.int .i64 ((rd_T35 l0 x15_1).f1))) w.heap.size (fun k_ => k_ ≠ gb103) u3 x3_1) := ⟨by (with_reducible repeat (first | apply Kd.R_alloc | apply Kd.R_drewN | apply Kd.R_drew)); exact Kd.R_mono (Kd.R_far (p := ⟨gb103, 1, none⟩) (Kd.R_far (p := ⟨gb103, 0, none⟩) (Kd.R_mono HO_3.out (fun k_ hk => (⟨hk, hk.2⟩ : _ ∧ k_ ≠ gb103))) (fun _ hk => hk.2) (.int .i64 ((rd_T35 l0 x15_1).f0))) (fun _ hk => hk.2) (.int .i64 ((rd_T35 l0 x15_1).f1))) (fun _ hk => hk.1.2)⟩; have n1_ : Aside0 (((w10.setCell ⟨gb103, 0, none⟩ (.int .i64 ((rd_T35 l0 x15_1).f0))).setCell ⟨gb103, 1, none⟩ (.int .i64 ((rd_T35 l0 x15_1).f1))).heap[gb103]? = some (.cells #[.int .i64 ((rd_T35 l0 x15_1).f0), .int .i64 ((rd_T35 l0 x15_1).f1)] 35 (0, 0))) := ⟨by (with_reducible repeat (first | refine blk_drewN ?_ _ | refine blk_drew ?_ | refine blk_alloc ?_ _)); refine blk_put (cs := #[.int .i64 ((rd_T35 l0 x15_1).f0), .int .i64 0]) ?_ 1 _ rfl; (with_reducible repeat (first | refine blk_drewN ?_ _ | refine blk_drew ?_ | refine blk_alloc ?_ _)); refine blk_put (cs := #[.int .i64 0, .int .i64 0]) ?_ 0 _ rfl; (with_reducible repeat (first | refine blk_drewN ?_ _ | refine blk_drew ?_ | refine blk_alloc ?_ _)); exact BK103.out⟩; have n2_ : Aside0 (Below w.heap.size w ((w10.setCell ⟨gb103, 0, none⟩ (.int .i64 ((rd_T35 l0 x15_1).f0))).setCell ⟨gb103, 1, none⟩ (.int .i64 ((rd_T35 l0 x15_1).f1)))) := ⟨(bC1 HB GE103.out)⟩; (try clear HO_3); (try clear BK103); (try clear HB); generalize ((w10.setCell ⟨gb103, 0, none⟩ (.int .i64 ((rd_T35 l0 x15_1).f0))).setCell ⟨gb103, 1, none⟩ (.int .i64 ((rd_T35 l0 x15_1).f1))) = w12 at n0_ n1_ n2_ ⊢; have HO_3 := n0_; have BK103 := n1_; have HB := n2_; clear n0_ n1_ n2_; have n0_ := Aside0.mk (Kd.R_drew HO_3.out); have n1_ := Aside0.mk (blk_drew BK103.out); have n2_ := Aside0.mk (below_drew1 HB.out); clear HO_3; clear BK103; clear HB; have HO_3 := n0_; have BK103 := n1_; have HB := n2_; clear n0_ n1_ n2_; refine start_ (n := 22) (S := fun w' => True) (ds := []) #[n_,n_,n_,n_,n_,n_,n_,n_,n_,n_,n_,n_,n_,n_,n_,n_,n_,n_,n_,n_,n_,n_] (by kernel_rfl) rfl rfl trivial (fun hHeld => ?_); refine with_tabW impl_CodeTurns.tab8 impl_CodeTurns.bits8 (fun HT_ HW_ => ?_); generalize w12.drew = w13 at HO_3 BK103 HB hHeld ⊢; refine pure_ (i := 0) (N := some 20) (v := ?_) (a' := ?_) #[y_,n_,n_,n_,n_,n_,n_,n_,n_,n_,n_,n_,n_,n_,n_,n_,n_,n_,n_,n_,n_,n_] rfl rfl (any_of HT_.out (by kernel_rfl)) (fun _ _ _ h => h) (Or.inl ⟨by rfl, ?_⟩) ?_ ?_
         rotate_left
         ·intro w'; go_simp; with_reducible rfl
         rotate_left
         ·simp only [Act.put, List.setIfInBounds_toArray, List.set_cons_zero, List.set_cons_succ, i64_w, i32_w]; rfl
         refine pure_ (i := 1) (N := some 21) (v := ?_) (a' := ?_) #[y_,y_,n_,n_,n_,n_,n_,n_,n_,n_,n_,n_,n_,n_,n_,n_,n_,n_,n_,n_,n_,n_] rfl rfl (any_of HT_.out (by kernel_rfl)) (fun _ _ _ h => h) (Or.inl ⟨by rfl, ?_⟩) ?_ ?_
         rotate_left
         ·intro w'; go_simp; with_reducible rfl
         rotate_left
         ·simp only [Act.put, List.setIfInBounds_toArray, List.set_cons_zero, List.set_cons_succ, i64_w, i32_w]; rfl
         refine pure_ (i := 2) (N := some 22) (v := ?_) (a' := ?_) #[y_,y_,y_,n_,n_,n_,n_,n_,n_,n_,n_,n_,n_,n_,n_,n_,n_,n_,n_,n_,n_,n_] rfl rfl (any_of HT_.out (by kernel_rfl)) (fun _ _ _ h => h) (Or.inl ⟨by rfl, ?_⟩) ?_ ?_
         rotate_left
         ·intro w'; go_simp; with_reducible rfl
         rotate_left
         ·simp only [Act.put, List.setIfInBounds_toArray, List.set_cons_zero, List.set_cons_succ, i64_w, i32_w]; rfl
         refine pure_ (i := 3) (N := some 23) (v := undef) (a' := ?_) #[y_,y_,y_,y_,n_,n_,n_,n_,n_,n_,n_,n_,n_,n_,n_,n_,n_,n_,n_,n_,n_,n_] rfl rfl (any_of HT_.out (by kernel_rfl)) (fun _ _ _ h => h) (Or.inr ⟨by rfl, rfl⟩) ?_ ?_
         rotate_left
         ·simp only [Act.put, List.setIfInBounds_toArray, List.set_cons_zero, List.set_cons_succ, i64_w, i32_w]; rfl
         refine pure_ (i := 4) (N := some 24) (v := undef) (a' := ?_) #[y_,y_,y_,y_,y_,n_,n_,n_,n_,n_,n_,n_,n_,n_,n_,n_,n_,n_,n_,n_,n_,n_] rfl rfl (any_of HT_.out (by kernel_rfl)) (fun _ _ _ h => h) (Or.inr ⟨by rfl, rfl⟩) ?_ ?_
         rotate_left
         ·simp only [Act.put, List.setIfInBounds_toArray, List.set_cons_zero, List.set_cons_succ, i64_w, i32_w]; rfl
         refine pure_ (i := 5) (N := some 25) (v := undef) (a' := ?_) #[y_,y_,y_,y_,y_,y_,n_,n_,n_,n_,n_,n_,n_,n_,n_,n_,n_,n_,n_,n_,n_,n_] rfl rfl (any_of HT_.out (by kernel_rfl)) (fun _ _ _ h => h) (Or.inr ⟨by rfl, rfl⟩) ?_ ?_
         rotate_left
         ·simp only [Act.put, List.setIfInBounds_toArray, List.set_cons_zero, List.set_cons_succ, i64_w, i32_w]; rfl
         refine pure_ (i := 6) (N := some 26) (v := ?_) (a' := ?_) #[y_,y_,y_,y_,y_,y_,y_,n_,n_,n_,n_,n_,n_,n_,n_,n_,n_,n_,n_,n_,n_,n_] rfl rfl (any_of HT_.out (by kernel_rfl)) (fun _ _ _ h => h) (Or.inl ⟨by rfl, ?_⟩) ?_ ?_
         rotate_left
         ·intro w'; go_simp; with_reducible rfl
         rotate_left
         ·simp only [Act.put, List.setIfInBounds_toArray, List.set_cons_zero, List.set_cons_succ, i64_w, i32_w]; rfl
         refine pure_ (i := 7) (N := some 27) (v := ?_) (a' := ?_) #[y_,y_,y_,y_,y_,y_,y_,y_,n_,n_,n_,n_,n_,n_,n_,n_,n_,n_,n_,n_,n_,n_] rfl rfl (any_of HT_.out (by kernel_rfl)) (fun _ _ _ h => h) (Or.inl ⟨by rfl, ?_⟩) ?_ ?_
         rotate_left
         ·intro w'; go_simp; with_reducible rfl
         rotate_left
         ·simp only [Act.put, List.setIfInBounds_toArray, List.set_cons_zero, List.set_cons_succ, i64_w, i32_w]; rfl
         refine pure_ (i := 8) (N := some 28) (v := undef) (a' := ?_) #[y_,y_,y_,y_,y_,y_,y_,y_,y_,n_,n_,n_,n_,n_,n_,n_,n_,n_,n_,n_,n_,n_] rfl rfl (any_of HT_.out (by kernel_rfl)) (fun _ _ _ h => h) (Or.inr ⟨by rfl, rfl⟩) ?_ ?_
         rotate_left
         ·simp only [Act.put, List.setIfInBounds_toArray, List.set_cons_zero, List.set_cons_succ, i64_w, i32_w]; rfl
         refine pure_ (i := 9) (N := some 29) (v := undef) (a' := ?_) #[y_,y_,y_,y_,y_,y_,y_,y_,y_,y_,n_,n_,n_,n_,n_,n_,n_,n_,n_,n_,n_,n_] rfl rfl (any_of HT_.out (by kernel_rfl)) (fun _ _ _ h => h) (Or.inr ⟨by rfl, rfl⟩) ?_ ?_
         rotate_left
         ·simp only [Act.put, List.setIfInBounds_toArray, List.set_cons_zero, List.set_cons_succ, i64_w, i32_w]; rfl
         refine pure_ (i := 10) (N := some 30) (v := undef) (a' := ?_) #[y_,y_,y_,y_,y_,y_,y_,y_,y_,y_,y_,n_,n_,n_,n_,n_,n_,n_,n_,n_,n_,n_] rfl rfl (any_of HT_.out (by kernel_rfl)) (fun _ _ _ h => h) (Or.inr ⟨by rfl, rfl⟩) ?_ ?_
         rotate_left
         ·simp only [Act.put, List.setIfInBounds_toArray, List.set_cons_zero, List.set_cons_succ, i64_w, i32_w]; rfl
         refine pure_ (i := 11) (N := some 31) (v := undef) (a' := ?_) #[y_,y_,y_,y_,y_,y_,y_,y_,y_,y_,y_,y_,n_,n_,n_,n_,n_,n_,n_,n_,n_,n_] rfl rfl (any_of HT_.out (by kernel_rfl)) (fun _ _ _ h => h) (Or.inr ⟨by rfl, rfl⟩) ?_ ?_
         rotate_left
         ·simp only [Act.put, List.setIfInBounds_toArray, List.set_cons_zero, List.set_cons_succ, i64_w, i32_w]; rfl
         refine pure_ (i := 12) (N := some 32) (v := undef) (a' := ?_) #[y_,y_,y_,y_,y_,y_,y_,y_,y_,y_,y_,y_,y_,n_,n_,n_,n_,n_,n_,n_,n_,n_] rfl rfl (any_of HT_.out (by kernel_rfl)) (fun _ _ _ h => h) (Or.inr ⟨by rfl, rfl⟩) ?_ ?_
         rotate_left
         ·simp only [Act.put, List.setIfInBounds_toArray, List.set_cons_zero, List.set_cons_succ, i64_w, i32_w]; rfl
         refine pure_ (i := 13) (N := some 33) (v := undef) (a' := ?_) #[y_,y_,y_,y_,y_,y_,y_,y_,y_,y_,y_,y_,y_,y_,n_,n_,n_,n_,n_,n_,n_,n_] rfl rfl (any_of HT_.out (by kernel_rfl)) (fun _ _ _ h => h) (Or.inr ⟨by rfl, rfl⟩) ?_ ?_
         rotate_left
         ·simp only [Act.put, List.setIfInBounds_toArray, List.set_cons_zero, List.set_cons_succ, i64_w, i32_w]; rfl
         refine pure_ (i := 14) (N := some 34) (v := undef) (a' := ?_) #[y_,y_,y_,y_,y_,y_,y_,y_,y_,y_,y_,y_,y_,y_,y_,n_,n_,n_,n_,n_,n_,n_] rfl rfl (any_of HT_.out (by kernel_rfl)) (fun _ _ _ h => h) (Or.inr ⟨by rfl, rfl⟩) ?_ ?_
         rotate_left
         ·simp only [Act.put, List.setIfInBounds_toArray, List.set_cons_zero, List.set_cons_succ, i64_w, i32_w]; rfl
         refine pure_ (i := 15) (N := some 35) (v := undef) (a' := ?_) #[y_,y_,y_,y_,y_,y_,y_,y_,y_,y_,y_,y_,y_,y_,y_,y_,n_,n_,n_,n_,n_,n_] rfl rfl (any_of HT_.out (by kernel_rfl)) (fun _ _ _ h => h) (Or.inr ⟨by rfl, rfl⟩) ?_ ?_
         rotate_left
         ·simp only [Act.put, List.setIfInBounds_toArray, List.set_cons_zero, List.set_cons_succ, i64_w, i32_w]; rfl
         refine pure_ (i := 16) (N := some 36) (v := undef) (a' := ?_) #[y_,y_,y_,y_,y_,y_,y_,y_,y_,y_,y_,y_,y_,y_,y_,y_,y_,n_,n_,n_,n_,n_] rfl rfl (any_of HT_.out (by kernel_rfl)) (fun _ _ _ h => h) (Or.inr ⟨by rfl, rfl⟩) ?_ ?_
         rotate_left
         ·simp only [Act.put, List.setIfInBounds_toArray, List.set_cons_zero, List.set_cons_succ, i64_w, i32_w]; rfl
         refine pure_ (i := 17) (N := some 37) (v := undef) (a' := ?_) #[y_,y_,y_,y_,y_,y_,y_,y_,y_,y_,y_,y_,y_,y_,y_,y_,y_,y_,n_,n_,n_,n_] rfl rfl (any_of HT_.out (by kernel_rfl)) (fun _ _ _ h => h) (Or.inr ⟨by rfl, rfl⟩) ?_ ?_
         rotate_left
         ·simp only [Act.put, List.setIfInBounds_toArray, List.set_cons_zero, List.set_cons_succ, i64_w, i32_w]; rfl
         refine pure_ (i := 18) (N := some 38) (v := undef) (a' := ?_) #[y_,y_,y_,y_,y_,y_,y_,y_,y_,y_,y_,y_,y_,y_,y_,y_,y_,y_,y_,n_,n_,n_] rfl rfl (any_of HT_.out (by kernel_rfl)) (fun _ _ _ h => h) (Or.inr ⟨by rfl, rfl⟩) ?_ ?_
         rotate_left
         ·simp only [Act.put, List.setIfInBounds_toArray, List.set_cons_zero, List.set_cons_succ, i64_w, i32_w]; rfl
         refine pure_ (i := 19) (N := some 39) (v := undef) (a' := ?_) #[y_,y_,y_,y_,y_,y_,y_,y_,y_,y_,y_,y_,y_,y_,y_,y_,y_,y_,y_,y_,n_,n_] rfl rfl (any_of HT_.out (by kernel_rfl)) (fun _ _ _ h => h) (Or.inr ⟨by rfl, rfl⟩) ?_ ?_
         rotate_left
         ·simp only [Act.put, List.setIfInBounds_toArray, List.set_cons_zero, List.set_cons_succ, i64_w, i32_w]; rfl
         refine pure_ (i := 20) (N := some 40) (v := undef) (a' := ?_) #[y_,y_,y_,y_,y_,y_,y_,y_,y_,y_,y_,y_,y_,y_,y_,y_,y_,y_,y_,y_,y_,n_] rfl rfl (any_of HT_.out (by kernel_rfl)) (fun _ _ _ h => h) (Or.inr ⟨by rfl, rfl⟩) ?_ ?_
         rotate_left
         ·simp only [Act.put, List.setIfInBounds_toArray, List.set_cons_zero, List.set_cons_succ, i64_w, i32_w]; rfl
         refine pure_ (i := 21) (N := some 41) (v := ?_) (a' := ?_) #[y_,y_,y_,y_,y_,y_,y_,y_,y_,y_,y_,y_,y_,y_,y_,y_,y_,y_,y_,y_,y_,y_] rfl rfl (any_of HT_.out (by kernel_rfl)) (fun _ _ _ h => h) (Or.inl ⟨by rfl, ?_⟩) ?_ ?_
         rotate_left
         ·intro w'; go_simp; with_reducible rfl
         rotate_left
         ·simp only [Act.put, List.setIfInBounds_toArray, List.set_cons_zero, List.set_cons_succ, i64_w, i32_w]; rfl
         refine done_ (done_of HT_.out (by kernel_rfl)) ?_; have hcz14_0 : w13.cell? ⟨gb103, 0, none⟩ = some (.int .i64 ((rd_T35 l0 x15_1).f0)) := (blk_cell BK103.out 0).trans rfl; have hcz14_1 : w13.cell? ⟨gb103, 1, none⟩ = some (.int .i64 ((rd_T35 l0 x15_1).f1)) := (blk_cell BK103.out 1).trans rfl; have hfz14_0 := blk_frozen BK103.out 0; have hfz14_1 := blk_frozen BK103.out 1
         try go_wp2_with (first | ((with_reducible refine gate_builtin (b := .append) (xs := #[.tmp 42, .tmp 44]) rfl ?_); at_builtin; refine Kd.R_append k35 (w0 := w) w.heap.size rfl (.tmp 42) (.tmp 44) 25 35 (.agg #[(.int .i64 0), (.int .i64 0)]) 16 rfl Tryd.underlying25 info35 rfl (by decide) (by omega) u3 x3_1 (⟨(rd_T35 l0 x15_1).f0, (rd_T35 l0 x15_1).f1⟩ : S35) [.int .i64 ((rd_T35 l0 x15_1).f0), .int .i64 ((rd_T35 l0 x15_1).f1)] (fun k_ => k_ ≠ gb103) (fun _ => False) rfl rfl ?aP (fun _ hk => hk.elim) ?aF ?aO ?aB ?aS ?aL ?_; (case aP => exact k35_mkM _ _ _ (⟨(rd_T35 l0 x15_1).f0, (rd_T35 l0 x15_1).f1⟩ : S35)); (case aB => exact (bC1 HB GE103.out)); (case aF => exact (fun k_ hk => Kd.freshB (g := gb103) (o := .cells #[.int .i64 ((rd_T35 l0 x15_1).f0), .int .i64 ((rd_T35 l0 x15_1).f1)] 35 (0, 0)) (bA BK103) k_ hk)); (case aO => exact (bR HO_3)); (case aS => exact (below_size (bC1 HB GE103.out))); (case aL => have := LMc9.out; omega); intro v105 w15 ho hb hg hat; rw [← Ny104.out] at ho; have n0_ := Aside0.mk (blk_grown (g := gb103) (o := .cells #[.int .i64 ((rd_T35 l0 x15_1).f0), .int .i64 ((rd_T35 l0 x15_1).f1)] 35 (0, 0)) (bA BK103) hg (Kd.R_away HO_3.out (fun _ hk => hk))); have n1_ := Aside0.mk (hb); have n2_ := Aside0.mk (ho); clear BK103; clear HB; clear HO_3; have BK103 := n0_; have HB := n1_; have HO106 := n2_; clear n0_ n1_ n2_; clear ho hb hg hat))
         go_roundg k1
         case measure => have := HK1.out; omega
         case rel => exact ⟨(y104), (wrap64 (x15_1 + 1)), (by first | rfl | (simp; done) | (simp [*]; done)), H', ⟨by have := HK1.out; omega⟩, ⟨by (with_reducible repeat (first | apply Kd.R_alloc | apply Kd.R_drewN | apply Kd.R_drew)); exact Kd.R_mono HO106.out (fun _ hk => trivial)⟩, ⟨(bC1 HB GE103.out)⟩⟩
        ·rw [if_neg c9] at H; exact absurd H (by simp)
       ·rw [if_neg c8] at H
        have c8b0 : (x15_1 == 0) = false := beq_eq_false_iff_ne.mpr c8; have c8b1 : (x15_1 != 0) = true := bne_iff_ne.mpr c8
        by_cases c16 : x15_1 = (wrap64 ((l0.length : Int) - 1))
        ·rw [if_pos c16] at H
         have c16b0 : (x15_1 == (wrap64 ((l0.length : Int) - 1))) = true := beq_iff_eq.mpr c16; have c16b1 : (x15_1 != (wrap64 ((l0.length : Int) - 1))) = false := bne_eq_false_iff_eq.mpr c16; clear c16
         by_cases c17 : x3_1.length < 8796093022208
         ·rw [if_pos c17] at H
          have LMc17 := Aside0.mk c17; clear c17; obtain ⟨y107, hy107⟩ : ∃ y_ : List (S35), y_ = (x3_1 ++ [(⟨(rd_T35 l0 x15_1).f0, (rd_T35 l0 x15_1).f1⟩ : S35)]) := ⟨_, rfl⟩
          replace H : (impl_CodeTurns.l0 k1 l0 y107 (wrap64 ((l0.length : Int) - 1)) l0 (l0.length : Int) (wrap64 (x15_1 + 1))) = some r := by first | (rw [hy107]; with_reducible exact H) | (have H2_ := (Option.bind_some _ _).symm.trans H; rw [hy107]; with_reducible exact H2_) | (have H2_ := (Option.bind_some _ _).symm.trans H; with_reducible exact H2_) | with_reducible exact H | (rw [hy107]; exact H) | exact H
          have Ny107 := Aside0.mk hy107; clear hy107; have H' := Aside0.mk H; clear H; have p102 : 0 ≤ (x15_1 : Int) := of_decide_eq_true bX; have q102 : x15_1 < (l0.length : Int) := of_decide_eq_true bX; obtain ⟨ad102, e102, hx102_0, hx102_1⟩ := at_T35 HR0.out x15_1 p102 q102
          cases e102
          replace hx102_0 := (HB.out.cell (World.block_lt_of_cell? w _ hx102_0)).trans hx102_0; replace hx102_1 := (HB.out.cell (World.block_lt_of_cell? w _ hx102_1)).trans hx102_1; replace p102 := eq_true p102; replace q102 := eq_true q102
          try go_wp2_with (first | ((with_reducible refine gate_dst (N := 6) rfl ?_); refine box_event ?hg (N := 6) ?hd (cs := #[.int .i64 0, .int .i64 0]) (t := 35) ?hr ?_; (case hd => rfl); (case hg => rfl); (case hr => first | (go_simp; done) | (go_simp; rfl)); intro gb103 hg w18 hbox hb; have n0_ := Aside0.mk (Kd.R_below (Kd.R_elderB (bR HO_3) gb103 (Nat.le_of_eq hg.symm)) hb); have n1_ := Aside0.mk (below_step (bC0 HB) hb); have n2_ := Aside0.mk (hbox); have n3_ := Aside0.mk ((by rw [hg]; exact (below_size (bC0 HB)) : w.heap.size ≤ gb103)); have n4_ := Aside0.mk ((by rw [hg]; exact (below_size (bC0 HB)) : w.heap.size ≤ gb103)); clear HO_3; clear HB; have HO_3 := n0_; have HB := n1_; have BK103 := n2_; have GW103 := n3_; have GE103 := n4_; clear n0_ n1_ n2_ n3_ n4_; clear hb hbox hg; have hcz19_0 : w18.cell? ⟨gb103, 0, none⟩ = some (.int .i64 0) := (blk_cell BK103.out 0).trans rfl; have hcz19_1 : w18.cell? ⟨gb103, 1, none⟩ = some (.int .i64 0) := (blk_cell BK103.out 1).trans rfl; have hfz19_0 := blk_frozen BK103.out 0; have hfz19_1 := blk_frozen BK103.out 1))
          have n0_ : Aside0 (Kd.R k35 35 ((w18.setCell ⟨gb103, 0, none⟩ (.int .i64 ((rd_T35 l0 x15_1).f0))).setCell ⟨gb103, 1, none⟩ (.int .i64 ((rd_T35 l0 x15_1).f1))) w.heap.size (fun k_ => k_ ≠ gb103) u3 x3_1) := ⟨by (with_reducible repeat (first | apply Kd.R_alloc | apply Kd.R_drewN | apply Kd.R_drew)); exact Kd.R_mono (Kd.R_far (p := ⟨gb103, 1, none⟩) (Kd.R_far (p := ⟨gb103, 0, none⟩) (Kd.R_mono HO_3.out (fun k_ hk => (⟨hk, hk.2⟩ : _ ∧ k_ ≠ gb103))) (fun _ hk => hk.2) (.int .i64 ((rd_T35 l0 x15_1).f0))) (fun _ hk => hk.2) (.int .i64 ((rd_T35 l0 x15_1).f1))) (fun _ hk => hk.1.2)⟩; have n1_ : Aside0 (((w18.setCell ⟨gb103, 0, none⟩ (.int .i64 ((rd_T35 l0 x15_1).f0))).setCell ⟨gb103, 1, none⟩ (.int .i64 ((rd_T35 l0 x15_1).f1))).heap[gb103]? = some (.cells #[.int .i64 ((rd_T35 l0 x15_1).f0), .int .i64 ((rd_T35 l0 x15_1).f1)] 35 (0, 0))) := ⟨by (with_reducible repeat (first | refine blk_drewN ?_ _ | refine blk_drew ?_ | refine blk_alloc ?_ _)); refine blk_put (cs := #[.int .i64 ((rd_T35 l0 x15_1).f0), .int .i64 0]) ?_ 1 _ rfl; (with_reducible repeat (first | refine blk_drewN ?_ _ | refine blk_drew ?_ | refine blk_alloc ?_ _)); refine blk_put (cs := #[.int .i64 0, .int .i64 0]) ?_ 0 _ rfl; (with_reducible repeat (first | refine blk_drewN ?_ _ | refine blk_drew ?_ | refine blk_alloc ?_ _)); exact BK103.out⟩; have n2_ : Aside0 (Below w.heap.size w ((w18.setCell ⟨gb103, 0, none⟩ (.int .i64 ((rd_T35 l0 x15_1).f0))).setCell ⟨gb103, 1, none⟩ (.int .i64 ((rd_T35 l0 x15_1).f1)))) := ⟨(bC1 HB GE103.out)⟩; (try clear HO_3); (try clear BK103); (try clear HB); generalize ((w18.setCell ⟨gb103, 0, none⟩ (.int .i64 ((rd_T35 l0 x15_1).f0))).setCell ⟨gb103, 1, none⟩ (.int .i64 ((rd_T35 l0 x15_1).f1))) = w20 at n0_ n1_ n2_ ⊢; have HO_3 := n0_; have BK103 := n1_; have HB := n2_; clear n0_ n1_ n2_; have n0_ := Aside0.mk (Kd.R_drew HO_3.out); have n1_ := Aside0.mk (blk_drew BK103.out); have n2_ := Aside0.mk (below_drew1 HB.out); clear HO_3; clear BK103; clear HB; have HO_3 := n0_; have BK103 := n1_; have HB := n2_; clear n0_ n1_ n2_; refine start_ (n := 22) (S := fun w' => True) (ds := []) #[n_,n_,n_,n_,n_,n_,n_,n_,n_,n_,n_,n_,n_,n_,n_,n_,n_,n_,n_,n_,n_,n_] (by kernel_rfl) rfl rfl trivial (fun hHeld => ?_); refine with_tabW impl_CodeTurns.tab8 impl_CodeTurns.bits8 (fun HT_ HW_ => ?_); generalize w20.drew = w21 at HO_3 BK103 HB hHeld ⊢; refine pure_ (i := 0) (N := some 20) (v := ?_) (a' := ?_) #[y_,n_,n_,n_,n_,n_,n_,n_,n_,n_,n_,n_,n_,n_,n_,n_,n_,n_,n_,n_,n_,n_] rfl rfl (any_of HT_.out (by kernel_rfl)) (fun _ _ _ h => h) (Or.inl ⟨by rfl, ?_⟩) ?_ ?_
          rotate_left
          ·intro w'; go_simp; with_reducible rfl
          rotate_left
          ·simp only [Act.put, List.setIfInBounds_toArray, List.set_cons_zero, List.set_cons_succ, i64_w, i32_w]; rfl
          refine pure_ (i := 1) (N := some 21) (v := ?_) (a' := ?_) #[y_,y_,n_,n_,n_,n_,n_,n_,n_,n_,n_,n_,n_,n_,n_,n_,n_,n_,n_,n_,n_,n_] rfl rfl (any_of HT_.out (by kernel_rfl)) (fun _ _ _ h => h) (Or.inl ⟨by rfl, ?_⟩) ?_ ?_
          rotate_left
          ·intro w'; go_simp; with_reducible rfl
          rotate_left
          ·simp only [Act.put, List.setIfInBounds_toArray, List.set_cons_zero, List.set_cons_succ, i64_w, i32_w]; rfl
          refine pure_ (i := 2) (N := some 22) (v := ?_) (a' := ?_) #[y_,y_,y_,n_,n_,n_,n_,n_,n_,n_,n_,n_,n_,n_,n_,n_,n_,n_,n_,n_,n_,n_] rfl rfl (any_of HT_.out (by kernel_rfl)) (fun _ _ _ h => h) (Or.inl ⟨by rfl, ?_⟩) ?_ ?_
          rotate_left
          ·intro w'; go_simp; with_reducible rfl
          rotate_left
          ·simp only [Act.put, List.setIfInBounds_toArray, List.set_cons_zero, List.set_cons_succ, i64_w, i32_w]; rfl
          refine pure_ (i := 3) (N := some 23) (v := ?_) (a' := ?_) #[y_,y_,y_,y_,n_,n_,n_,n_,n_,n_,n_,n_,n_,n_,n_,n_,n_,n_,n_,n_,n_,n_] rfl rfl (any_of HT_.out (by kernel_rfl)) (fun _ _ _ h => h) (Or.inl ⟨by rfl, ?_⟩) ?_ ?_
          rotate_left
          ·intro w'; go_simp; with_reducible rfl
          rotate_left
          ·simp only [Act.put, List.setIfInBounds_toArray, List.set_cons_zero, List.set_cons_succ, i64_w, i32_w]; rfl
          refine pure_ (i := 4) (N := some 24) (v := ?_) (a' := ?_) #[y_,y_,y_,y_,y_,n_,n_,n_,n_,n_,n_,n_,n_,n_,n_,n_,n_,n_,n_,n_,n_,n_] rfl rfl (any_of HT_.out (by kernel_rfl)) (fun _ _ _ h => h) (Or.inl ⟨by rfl, ?_⟩) ?_ ?_
          rotate_left
          ·intro w'; go_simp; with_reducible rfl
          rotate_left
          ·simp only [Act.put, List.setIfInBounds_toArray, List.set_cons_zero, List.set_cons_succ, i64_w, i32_w]; rfl
          refine pure_ (i := 5) (N := some 25) (v := ?_) (a' := ?_) #[y_,y_,y_,y_,y_,y_,n_,n_,n_,n_,n_,n_,n_,n_,n_,n_,n_,n_,n_,n_,n_,n_] rfl rfl (any_of HT_.out (by kernel_rfl)) (fun _ _ _ h => h) (Or.inl ⟨by rfl, ?_⟩) ?_ ?_
          rotate_left
          ·intro w'; go_simp; with_reducible rfl
          rotate_left
          ·simp only [Act.put, List.setIfInBounds_toArray, List.set_cons_zero, List.set_cons_succ, i64_w, i32_w]; rfl
          refine pure_ (i := 6) (N := some 26) (v := ?_) (a' := ?_) #[y_,y_,y_,y_,y_,y_,y_,n_,n_,n_,n_,n_,n_,n_,n_,n_,n_,n_,n_,n_,n_,n_] rfl rfl (any_of HT_.out (by kernel_rfl)) (fun _ _ _ h => h) (Or.inl ⟨by rfl, ?_⟩) ?_ ?_
          rotate_left
          ·intro w'; go_simp; with_reducible rfl
          rotate_left
          ·simp only [Act.put, List.setIfInBounds_toArray, List.set_cons_zero, List.set_cons_succ, i64_w, i32_w]; rfl
          refine pure_ (i := 7) (N := some 27) (v := ?_) (a' := ?_) #[y_,y_,y_,y_,y_,y_,y_,y_,n_,n_,n_,n_,n_,n_,n_,n_,n_,n_,n_,n_,n_,n_] rfl rfl (any_of HT_.out (by kernel_rfl)) (fun _ _ _ h => h) (Or.inl ⟨by rfl, ?_⟩) ?_ ?_
          rotate_left
          ·intro w'; go_simp; with_reducible rfl
          rotate_left
          ·simp only [Act.put, List.setIfInBounds_toArray, List.set_cons_zero, List.set_cons_succ, i64_w, i32_w]; rfl
          refine pure_ (i := 8) (N := some 28) (v := undef) (a' := ?_) #[y_,y_,y_,y_,y_,y_,y_,y_,y_,n_,n_,n_,n_,n_,n_,n_,n_,n_,n_,n_,n_,n_] rfl rfl (any_of HT_.out (by kernel_rfl)) (fun _ _ _ h => h) (Or.inr ⟨by rfl, rfl⟩) ?_ ?_
          rotate_left
          ·simp only [Act.put, List.setIfInBounds_toArray, List.set_cons_zero, List.set_cons_succ, i64_w, i32_w]; rfl
          refine pure_ (i := 9) (N := some 29) (v := undef) (a' := ?_) #[y_,y_,y_,y_,y_,y_,y_,y_,y_,y_,n_,n_,n_,n_,n_,n_,n_,n_,n_,n_,n_,n_] rfl rfl (any_of HT_.out (by kernel_rfl)) (fun _ _ _ h => h) (Or.inr ⟨by rfl, rfl⟩) ?_ ?_
          rotate_left
          ·simp only [Act.put, List.setIfInBounds_toArray, List.set_cons_zero, List.set_cons_succ, i64_w, i32_w]; rfl
          refine pure_ (i := 10) (N := some 30) (v := undef) (a' := ?_) #[y_,y_,y_,y_,y_,y_,y_,y_,y_,y_,y_,n_,n_,n_,n_,n_,n_,n_,n_,n_,n_,n_] rfl rfl (any_of HT_.out (by kernel_rfl)) (fun _ _ _ h => h) (Or.inr ⟨by rfl, rfl⟩) ?_ ?_
          rotate_left
          ·simp only [Act.put, List.setIfInBounds_toArray, List.set_cons_zero, List.set_cons_succ, i64_w, i32_w]; rfl
          refine pure_ (i := 11) (N := some 31) (v := undef) (a' := ?_) #[y_,y_,y_,y_,y_,y_,y_,y_,y_,y_,y_,y_,n_,n_,n_,n_,n_,n_,n_,n_,n_,n_] rfl rfl (any_of HT_.out (by kernel_rfl)) (fun _ _ _ h => h) (Or.inr ⟨by rfl, rfl⟩) ?_ ?_
          rotate_left
          ·simp only [Act.put, List.setIfInBounds_toArray, List.set_cons_zero, List.set_cons_succ, i64_w, i32_w]; rfl
          refine pure_ (i := 12) (N := some 32) (v := undef) (a' := ?_) #[y_,y_,y_,y_,y_,y_,y_,y_,y_,y_,y_,y_,y_,n_,n_,n_,n_,n_,n_,n_,n_,n_] rfl rfl (any_of HT_.out (by kernel_rfl)) (fun _ _ _ h => h) (Or.inr ⟨by rfl, rfl⟩) ?_ ?_
          rotate_left
          ·simp only [Act.put, List.setIfInBounds_toArray, List.set_cons_zero, List.set_cons_succ, i64_w, i32_w]; rfl
          refine pure_ (i := 13) (N := some 33) (v := undef) (a' := ?_) #[y_,y_,y_,y_,y_,y_,y_,y_,y_,y_,y_,y_,y_,y_,n_,n_,n_,n_,n_,n_,n_,n_] rfl rfl (any_of HT_.out (by kernel_rfl)) (fun _ _ _ h => h) (Or.inr ⟨by rfl, rfl⟩) ?_ ?_
          rotate_left
          ·simp only [Act.put, List.setIfInBounds_toArray, List.set_cons_zero, List.set_cons_succ, i64_w, i32_w]; rfl
          refine pure_ (i := 14) (N := some 34) (v := undef) (a' := ?_) #[y_,y_,y_,y_,y_,y_,y_,y_,y_,y_,y_,y_,y_,y_,y_,n_,n_,n_,n_,n_,n_,n_] rfl rfl (any_of HT_.out (by kernel_rfl)) (fun _ _ _ h => h) (Or.inr ⟨by rfl, rfl⟩) ?_ ?_
          rotate_left
          ·simp only [Act.put, List.setIfInBounds_toArray, List.set_cons_zero, List.set_cons_succ, i64_w, i32_w]; rfl
          refine pure_ (i := 15) (N := some 35) (v := undef) (a' := ?_) #[y_,y_,y_,y_,y_,y_,y_,y_,y_,y_,y_,y_,y_,y_,y_,y_,n_,n_,n_,n_,n_,n_] rfl rfl (any_of HT_.out (by kernel_rfl)) (fun _ _ _ h => h) (Or.inr ⟨by rfl, rfl⟩) ?_ ?_
          rotate_left
          ·simp only [Act.put, List.setIfInBounds_toArray, List.set_cons_zero, List.set_cons_succ, i64_w, i32_w]; rfl
          refine pure_ (i := 16) (N := some 36) (v := undef) (a' := ?_) #[y_,y_,y_,y_,y_,y_,y_,y_,y_,y_,y_,y_,y_,y_,y_,y_,y_,n_,n_,n_,n_,n_] rfl rfl (any_of HT_.out (by kernel_rfl)) (fun _ _ _ h => h) (Or.inr ⟨by rfl, rfl⟩) ?_ ?_
          rotate_left
          ·simp only [Act.put, List.setIfInBounds_toArray, List.set_cons_zero, List.set_cons_succ, i64_w, i32_w]; rfl
          refine pure_ (i := 17) (N := some 37) (v := undef) (a' := ?_) #[y_,y_,y_,y_,y_,y_,y_,y_,y_,y_,y_,y_,y_,y_,y_,y_,y_,y_,n_,n_,n_,n_] rfl rfl (any_of HT_.out (by kernel_rfl)) (fun _ _ _ h => h) (Or.inr ⟨by rfl, rfl⟩) ?_ ?_
          rotate_left
          ·simp only [Act.put, List.setIfInBounds_toArray, List.set_cons_zero, List.set_cons_succ, i64_w, i32_w]; rfl
          refine pure_ (i := 18) (N := some 38) (v := undef) (a' := ?_) #[y_,y_,y_,y_,y_,y_,y_,y_,y_,y_,y_,y_,y_,y_,y_,y_,y_,y_,y_,n_,n_,n_] rfl rfl (any_of HT_.out (by kernel_rfl)) (fun _ _ _ h => h) (Or.inr ⟨by rfl, rfl⟩) ?_ ?_
          rotate_left
          ·simp only [Act.put, List.setIfInBounds_toArray, List.set_cons_zero, List.set_cons_succ, i64_w, i32_w]; rfl
          refine pure_ (i := 19) (N := some 39) (v := undef) (a' := ?_) #[y_,y_,y_,y_,y_,y_,y_,y_,y_,y_,y_,y_,y_,y_,y_,y_,y_,y_,y_,y_,n_,n_] rfl rfl (any_of HT_.out (by kernel_rfl)) (fun _ _ _ h => h) (Or.inr ⟨by rfl, rfl⟩) ?_ ?_
          rotate_left
          ·simp only [Act.put, List.setIfInBounds_toArray, List.set_cons_zero, List.set_cons_succ, i64_w, i32_w]; rfl
          refine pure_ (i := 20) (N := some 40) (v := undef) (a' := ?_) #[y_,y_,y_,y_,y_,y_,y_,y_,y_,y_,y_,y_,y_,y_,y_,y_,y_,y_,y_,y_,y_,n_] rfl rfl (any_of HT_.out (by kernel_rfl)) (fun _ _ _ h => h) (Or.inr ⟨by rfl, rfl⟩) ?_ ?_
          rotate_left
          ·simp only [Act.put, List.setIfInBounds_toArray, List.set_cons_zero, List.set_cons_succ, i64_w, i32_w]; rfl
          refine pure_ (i := 21) (N := some 41) (v := ?_) (a' := ?_) #[y_,y_,y_,y_,y_,y_,y_,y_,y_,y_,y_,y_,y_,y_,y_,y_,y_,y_,y_,y_,y_,y_] rfl rfl (any_of HT_.out (by kernel_rfl)) (fun _ _ _ h => h) (Or.inl ⟨by rfl, ?_⟩) ?_ ?_
          rotate_left
          ·intro w'; go_simp; with_reducible rfl
          rotate_left
          ·simp only [Act.put, List.setIfInBounds_toArray, List.set_cons_zero, List.set_cons_succ, i64_w, i32_w]; rfl
          refine done_ (done_of HT_.out (by kernel_rfl)) ?_; have hcz22_0 : w21.cell? ⟨gb103, 0, none⟩ = some (.int .i64 ((rd_T35 l0 x15_1).f0)) := (blk_cell BK103.out 0).trans rfl; have hcz22_1 : w21.cell? ⟨gb103, 1, none⟩ = some (.int .i64 ((rd_T35 l0 x15_1).f1)) := (blk_cell BK103.out 1).trans rfl; have hfz22_0 := blk_frozen BK103.out 0; have hfz22_1 := blk_frozen BK103.out 1
          try go_wp2_with (first | ((with_reducible refine gate_builtin (b := .append) (xs := #[.tmp 42, .tmp 44]) rfl ?_); at_builtin; refine Kd.R_append k35 (w0 := w) w.heap.size rfl (.tmp 42) (.tmp 44) 25 35 (.agg #[(.int .i64 0), (.int .i64 0)]) 16 rfl Tryd.underlying25 info35 rfl (by decide) (by omega) u3 x3_1 (⟨(rd_T35 l0 x15_1).f0, (rd_T35 l0 x15_1).f1⟩ : S35) [.int .i64 ((rd_T35 l0 x15_1).f0), .int .i64 ((rd_T35 l0 x15_1).f1)] (fun k_ => k_ ≠ gb103) (fun _ => False) rfl rfl ?aP (fun _ hk => hk.elim) ?aF ?aO ?aB ?aS ?aL ?_; (case aP => exact k35_mkM _ _ _ (⟨(rd_T35 l0 x15_1).f0, (rd_T35 l0 x15_1).f1⟩ : S35)); (case aB => exact (bC1 HB GE103.out)); (case aF => exact (fun k_ hk => Kd.freshB (g := gb103) (o := .cells #[.int .i64 ((rd_T35 l0 x15_1).f0), .int .i64 ((rd_T35 l0 x15_1).f1)] 35 (0, 0)) (bA BK103) k_ hk)); (case aO => exact (bR HO_3)); (case aS => exact (below_size (bC1 HB GE103.out))); (case aL => have := LMc17.out; omega); intro v108 w23 ho hb hg hat; rw [← Ny107.out] at ho; have n0_ := Aside0.mk (blk_grown (g := gb103) (o := .cells #[.int .i64 ((rd_T35 l0 x15_1).f0), .int .i64 ((rd_T35 l0 x15_1).f1)] 35 (0, 0)) (bA BK103) hg (Kd.R_away HO_3.out (fun _ hk => hk))); have n1_ := Aside0.mk (hb); have n2_ := Aside0.mk (ho); clear BK103; clear HB; clear HO_3; have BK103 := n0_; have HB := n1_; have HO109 := n2_; clear n0_ n1_ n2_; clear ho hb hg hat))
          go_roundg k1
          case measure => have := HK1.out; omega
          case rel => exact ⟨(y107), (wrap64 (x15_1 + 1)), (by first | rfl | (simp; done) | (simp [*]; done)), H', ⟨by have := HK1.out; omega⟩, ⟨by (with_reducible repeat (first | apply Kd.R_alloc | apply Kd.R_drewN | apply Kd.R_drew)); exact Kd.R_mono HO109.out (fun _ hk => trivial)⟩, ⟨(bC1 HB GE103.out)⟩⟩
         ·rw [if_neg c17] at H; exact absurd H (by simp)
        ·rw [if_neg c16] at H
         have c16b0 : (x15_1 == (wrap64 ((l0.length : Int) - 1))) = false := beq_eq_false_iff_ne.mpr c16; have c16b1 : (x15_1 != (wrap64 ((l0.length : Int) - 1))) = true := bne_iff_ne.mpr c16; obtain ⟨ji24, hji24⟩ : ∃ j_ : Int, (wrap64 (x15_1 - 1)) = j_ := ⟨_, rfl⟩
         replace H : (if 0 ≤ (ji24) then (if (ji24) < (l0.length : Int) then (if 0 ≤ (wrap64 (x15_1 + 1)) then (if (wrap64 (x15_1 + 1)) < (l0.length : Int) then ((impl_goesOn.f ((rd_T35 l0 (ji24)).f0) ((rd_T35 l0 (ji24)).f1) ((rd_T35 l0 x15_1).f0) ((rd_T35 l0 x15_1).f1) ((rd_T35 l0 (wrap64 (x15_1 + 1))).f0) ((rd_T35 l0 (wrap64 (x15_1 + 1))).f1)).bind fun t112 => (if t112 = true then (impl_CodeTurns.l0 k1 l0 x3_1 (wrap64 ((l0.length : Int) - 1)) l0 (l0.length : Int) (wrap64 (x15_1 + 1))) else (if x3_1.length < 8796093022208 then (impl_CodeTurns.l0 k1 l0 (x3_1 ++ [(⟨(rd_T35 l0 x15_1).f0, (rd_T35 l0 x15_1).f1⟩ : S35)]) (wrap64 ((l0.length : Int) - 1)) l0 (l0.length : Int) (wrap64 (x15_1 + 1))) else (none)))) else (none)) else (none)) else (none)) else (none)) = some r := by first | (rw [hji24] at H; exact H) | (simp only [hji24] at H ⊢; exact H)
         have hji24w : (IntKind.i64.wrap (x15_1 - 1)) = ji24 := (i64_w _).trans hji24
         by_cases c25 : 0 ≤ (ji24)
         ·rw [if_pos c25] at H
          have c25b0 : decide (0 ≤ (ji24)) = true := decide_eq_true c25; clear c25
          by_cases c26 : (ji24) < (l0.length : Int)
          ·rw [if_pos c26] at H
           have c26b0 : decide ((ji24) < (l0.length : Int)) = true := decide_eq_true c26; clear c26; obtain ⟨ji27, hji27⟩ : ∃ j_ : Int, (wrap64 (x15_1 + 1)) = j_ := ⟨_, rfl⟩
           replace H : (if 0 ≤ (ji27) then (if (ji27) < (l0.length : Int) then ((impl_goesOn.f ((rd_T35 l0 (ji24)).f0) ((rd_T35 l0 (ji24)).f1) ((rd_T35 l0 x15_1).f0) ((rd_T35 l0 x15_1).f1) ((rd_T35 l0 (ji27)).f0) ((rd_T35 l0 (ji27)).f1)).bind fun t112 => (if t112 = true then (impl_CodeTurns.l0 k1 l0 x3_1 (wrap64 ((l0.length : Int) - 1)) l0 (l0.length : Int) ji27) else (if x3_1.length < 8796093022208 then (impl_CodeTurns.l0 k1 l0 (x3_1 ++ [(⟨(rd_T35 l0 x15_1).f0, (rd_T35 l0 x15_1).f1⟩ : S35)]) (wrap64 ((l0.length : Int) - 1)) l0 (l0.length : Int) ji27) else (none)))) else (none)) else (none)) = some r := by first | (rw [hji27] at H; exact H) | (simp only [hji27] at H ⊢; exact H)
           have hji27w : (IntKind.i64.wrap (x15_1 + 1)) = ji27 := (i64_w _).trans hji27
           by_cases c28 : 0 ≤ (ji27)
           ·rw [if_pos c28] at H
            have c28b0 : decide (0 ≤ (ji27)) = true := decide_eq_true c28; clear c28
            by_cases c29 : (ji27) < (l0.length : Int)
            ·rw [if_pos c29] at H
             have c29b0 : decide ((ji27) < (l0.length : Int)) = true := decide_eq_true c29; clear c29; replace H := Option.bind_eq_some_iff.mp H; obtain ⟨t112, A300, H⟩ := H; replace H : (if t112 = true then (impl_CodeTurns.l0 k1 l0 x3_1 (wrap64 ((l0.length : Int) - 1)) l0 (l0.length : Int) ji27) else (if x3_1.length < 8796093022208 then (impl_CodeTurns.l0 k1 l0 (x3_1 ++ [(⟨(rd_T35 l0 x15_1).f0, (rd_T35 l0 x15_1).f1⟩ : S35)]) (wrap64 ((l0.length : Int) - 1)) l0 (l0.length : Int) ji27) else (none))) = some r := H; have A30 := Aside0.mk A300; clear A300
             by_cases c31 : t112 = true
             ·subst c31
              have H1 : (impl_CodeTurns.l0 k1 l0 x3_1 (wrap64 ((l0.length : Int) - 1)) l0 (l0.length : Int) ji27) = some r := by rw [if_pos rfl] at H; exact H
              clear H; have H := H1; clear H1; have H' := Aside0.mk H; clear H; have p102 : 0 ≤ (x15_1 : Int) := of_decide_eq_true bX; have q102 : x15_1 < (l0.length : Int) := of_decide_eq_true bX; obtain ⟨ad102, e102, hx102_0, hx102_1⟩ := at_T35 HR0.out x15_1 p102 q102
              cases e102
              replace hx102_0 := (HB.out.cell (World.block_lt_of_cell? w _ hx102_0)).trans hx102_0; replace hx102_1 := (HB.out.cell (World.block_lt_of_cell? w _ hx102_1)).trans hx102_1; replace p102 := eq_true p102; replace q102 := eq_true q102
              try go_wp2_with (first | ((with_reducible refine gate_dst (N := 6) rfl ?_); refine box_event ?hg (N := 6) ?hd (cs := #[.int .i64 0, .int .i64 0]) (t := 35) ?hr ?_; (case hd => rfl); (case hg => rfl); (case hr => first | (go_simp; done) | (go_simp; rfl)); intro gb103 hg w32 hbox hb; have n0_ := Aside0.mk (Kd.R_below (Kd.R_elderB (bR HO_3) gb103 (Nat.le_of_eq hg.symm)) hb); have n1_ := Aside0.mk (below_step (bC0 HB) hb); have n2_ := Aside0.mk (hbox); have n3_ := Aside0.mk ((by rw [hg]; exact (below_size (bC0 HB)) : w.heap.size ≤ gb103)); have n4_ := Aside0.mk ((by rw [hg]; exact (below_size (bC0 HB)) : w.heap.size ≤ gb103)); clear HO_3; clear HB; have HO_3 := n0_; have HB := n1_; have BK103 := n2_; have GW103 := n3_; have GE103 := n4_; clear n0_ n1_ n2_ n3_ n4_; clear hb hbox hg; have hcz33_0 : w32.cell? ⟨gb103, 0, none⟩ = some (.int .i64 0) := (blk_cell BK103.out 0).trans rfl; have hcz33_1 : w32.cell? ⟨gb103, 1, none⟩ = some (.int .i64 0) := (blk_cell BK103.out 1).trans rfl; have hfz33_0 := blk_frozen BK103.out 0; have hfz33_1 := blk_frozen BK103.out 1))
              have n0_ : Aside0 (Kd.R k35 35 ((w32.setCell ⟨gb103, 0, none⟩ (.int .i64 ((rd_T35 l0 x15_1).f0))).setCell ⟨gb103, 1, none⟩ (.int .i64 ((rd_T35 l0 x15_1).f1))) w.heap.size (fun k_ => k_ ≠ gb103) u3 x3_1) := ⟨by (with_reducible repeat (first | apply Kd.R_alloc | apply Kd.R_drewN | apply Kd.R_drew)); exact Kd.R_mono (Kd.R_far (p := ⟨gb103, 1, none⟩) (Kd.R_far (p := ⟨gb103, 0, none⟩) (Kd.R_mono HO_3.out (fun k_ hk => (⟨hk, hk.2⟩ : _ ∧ k_ ≠ gb103))) (fun _ hk => hk.2) (.int .i64 ((rd_T35 l0 x15_1).f0))) (fun _ hk => hk.2) (.int .i64 ((rd_T35 l0 x15_1).f1))) (fun _ hk => hk.1.2)⟩; have n1_ : Aside0 (((w32.setCell ⟨gb103, 0, none⟩ (.int .i64 ((rd_T35 l0 x15_1).f0))).setCell ⟨gb103, 1, none⟩ (.int .i64 ((rd_T35 l0 x15_1).f1))).heap[gb103]? = some (.cells #[.int .i64 ((rd_T35 l0 x15_1).f0), .int .i64 ((rd_T35 l0 x15_1).f1)] 35 (0, 0))) := ⟨by (with_reducible repeat (first | refine blk_drewN ?_ _ | refine blk_drew ?_ | refine blk_alloc ?_ _)); refine blk_put (cs := #[.int .i64 ((rd_T35 l0 x15_1).f0), .int .i64 0]) ?_ 1 _ rfl; (with_reducible repeat (first | refine blk_drewN ?_ _ | refine blk_drew ?_ | refine blk_alloc ?_ _)); refine blk_put (cs := #[.int .i64 0, .int .i64 0]) ?_ 0 _ rfl; (with_reducible repeat (first | refine blk_drewN ?_ _ | refine blk_drew ?_ | refine blk_alloc ?_ _)); exact BK103.out⟩; have n2_ : Aside0 (Below w.heap.size w ((w32.setCell ⟨gb103, 0, none⟩ (.int .i64 ((rd_T35 l0 x15_1).f0))).setCell ⟨gb103, 1, none⟩ (.int .i64 ((rd_T35 l0 x15_1).f1)))) := ⟨(bC1 HB GE103.out)⟩; (try clear HO_3); (try clear BK103); (try clear HB); generalize ((w32.setCell ⟨gb103, 0, none⟩ (.int .i64 ((rd_T35 l0 x15_1).f0))).setCell ⟨gb103, 1, none⟩ (.int .i64 ((rd_T35 l0 x15_1).f1))) = w34 at n0_ n1_ n2_ ⊢; have HO_3 := n0_; have BK103 := n1_; have HB := n2_; clear n0_ n1_ n2_; have n0_ := Aside0.mk (Kd.R_drew HO_3.out); have n1_ := Aside0.mk (blk_drew BK103.out); have n2_ := Aside0.mk (below_drew1 HB.out); clear HO_3; clear BK103; clear HB; have HO_3 := n0_; have BK103 := n1_; have HB := n2_; clear n0_ n1_ n2_; have p110 : 0 ≤ ((ji24) : Int) := of_decide_eq_true bX; have q110 : (ji24) < (l0.length : Int) := of_decide_eq_true bX; obtain ⟨ad110, e110, hx110_0, hx110_1⟩ := at_T35 HR0.out (ji24) p110 q110; have hw110_1 := hx110_1; have hw110_0 := hx110_0; obtain rfl : ad102 = ad110 := (by injection e110); replace hx110_0 := (HB.out.cell (World.block_lt_of_cell? w _ hx110_0)).trans hx110_0; replace hx110_1 := (HB.out.cell (World.block_lt_of_cell? w _ hx110_1)).trans hx110_1; replace p110 := eq_true p110; replace q110 := eq_true q110; have p111 : 0 ≤ ((ji27) : Int) := of_decide_eq_true bX; have q111 : (ji27) < (l0.length : Int) := of_decide_eq_true bX; obtain ⟨ad111, e111, hx111_0, hx111_1⟩ := at_T35 HR0.out (ji27) p111 q111; have hw111_1 := hx111_1; have hw111_0 := hx111_0; obtain rfl : ad102 = ad111 := (by injection e111); replace hx111_0 := (HB.out.cell (World.block_lt_of_cell? w _ hx111_0)).trans hx111_0; replace hx111_1 := (HB.out.cell (World.block_lt_of_cell? w _ hx111_1)).trans hx111_1; replace p111 := eq_true p111; replace q111 := eq_true q111; refine start_ (n := 22) (S := fun w' => w'.cell? ⟨gb103, 0, none⟩ = some (.int .i64 ((rd_T35 l0 x15_1).f0)) ∧ w'.cell? ⟨gb103, 1, none⟩ = some (.int .i64 ((rd_T35 l0 x15_1).f1)) ∧ w'.cell? (ad102.add (((ji24)).toNat * 2)) = some (.int .i64 ((rd_T35 l0 (ji24)).f0)) ∧ w'.cell? ⟨(ad102.add (((ji24)).toNat * 2)).block, (ad102.add (((ji24)).toNat * 2)).off + 1, none⟩ = some (.int .i64 ((rd_T35 l0 (ji24)).f1)) ∧ w'.cell? (ad102.add (((ji27)).toNat * 2)) = some (.int .i64 ((rd_T35 l0 (ji27)).f0)) ∧ w'.cell? ⟨(ad102.add (((ji27)).toNat * 2)).block, (ad102.add (((ji27)).toNat * 2)).off + 1, none⟩ = some (.int .i64 ((rd_T35 l0 (ji27)).f1))) (ds := []) #[n_,n_,n_,n_,n_,n_,n_,n_,n_,n_,n_,n_,n_,n_,n_,n_,n_,n_,n_,n_,n_,n_] (by kernel_rfl) rfl rfl ⟨(blk_cell BK103.out 0).trans rfl, (blk_cell BK103.out 1).trans rfl, ((HB.out.cell (World.block_lt_of_cell? w _ hw110_0)).trans hw110_0), ((HB.out.cell (World.block_lt_of_cell? w _ hw110_1)).trans hw110_1), ((HB.out.cell (World.block_lt_of_cell? w _ hw111_0)).trans hw111_0), ((HB.out.cell (World.block_lt_of_cell? w _ hw111_1)).trans hw111_1)⟩ (fun hHeld => ?_); refine with_tabW impl_CodeTurns.tab8 impl_CodeTurns.bits8 (fun HT_ HW_ => ?_)
              generalize w34.drew = w35 at HO_3 BK103 HB hx110_0 hx110_1 hx111_0 hx111_1 hHeld ⊢; refine pure_ (i := 0) (N := some 20) (v := ?_) (a' := ?_) #[y_,n_,n_,n_,n_,n_,n_,n_,n_,n_,n_,n_,n_,n_,n_,n_,n_,n_,n_,n_,n_,n_] rfl rfl (any_of HT_.out (by kernel_rfl)) (fun _ _ _ h => h) (Or.inl ⟨by rfl, ?_⟩) ?_ ?_
              rotate_left
              ·intro w'; go_simp; with_reducible rfl
              rotate_left
              ·simp only [Act.put, List.setIfInBounds_toArray, List.set_cons_zero, List.set_cons_succ, i64_w, i32_w]; rfl
              refine pure_ (i := 1) (N := some 21) (v := ?_) (a' := ?_) #[y_,y_,n_,n_,n_,n_,n_,n_,n_,n_,n_,n_,n_,n_,n_,n_,n_,n_,n_,n_,n_,n_] rfl rfl (any_of HT_.out (by kernel_rfl)) (fun _ _ _ h => h) (Or.inl ⟨by rfl, ?_⟩) ?_ ?_
              rotate_left
              ·intro w'; go_simp; with_reducible rfl
              rotate_left
              ·simp only [Act.put, List.setIfInBounds_toArray, List.set_cons_zero, List.set_cons_succ, i64_w, i32_w]; rfl
              refine pure_ (i := 2) (N := some 22) (v := ?_) (a' := ?_) #[y_,y_,y_,n_,n_,n_,n_,n_,n_,n_,n_,n_,n_,n_,n_,n_,n_,n_,n_,n_,n_,n_] rfl rfl (any_of HT_.out (by kernel_rfl)) (fun _ _ _ h => h) (Or.inl ⟨by rfl, ?_⟩) ?_ ?_
              rotate_left
              ·intro w'; go_simp; with_reducible rfl
              rotate_left
              ·simp only [Act.put, List.setIfInBounds_toArray, List.set_cons_zero, List.set_cons_succ, i64_w, i32_w]; rfl
              refine pure_ (i := 3) (N := some 23) (v := ?_) (a' := ?_) #[y_,y_,y_,y_,n_,n_,n_,n_,n_,n_,n_,n_,n_,n_,n_,n_,n_,n_,n_,n_,n_,n_] rfl rfl (any_of HT_.out (by kernel_rfl)) (fun _ _ _ h => h) (Or.inl ⟨by rfl, ?_⟩) ?_ ?_
              rotate_left
              ·intro w'; go_simp; with_reducible rfl
              rotate_left
              ·simp only [Act.put, List.setIfInBounds_toArray, List.set_cons_zero, List.set_cons_succ, i64_w, i32_w]; rfl
              refine pure_ (i := 4) (N := some 24) (v := ?_) (a' := ?_) #[y_,y_,y_,y_,y_,n_,n_,n_,n_,n_,n_,n_,n_,n_,n_,n_,n_,n_,n_,n_,n_,n_] rfl rfl (any_of HT_.out (by kernel_rfl)) (fun _ _ _ h => h) (Or.inl ⟨by rfl, ?_⟩) ?_ ?_
              rotate_left
              ·intro w'; go_simp; with_reducible rfl
              rotate_left
              ·simp only [Act.put, List.setIfInBounds_toArray, List.set_cons_zero, List.set_cons_succ, i64_w, i32_w]; rfl
              refine pure_ (i := 5) (N := some 25) (v := ?_) (a' := ?_) #[y_,y_,y_,y_,y_,y_,n_,n_,n_,n_,n_,n_,n_,n_,n_,n_,n_,n_,n_,n_,n_,n_] rfl rfl (any_of HT_.out (by kernel_rfl)) (fun _ _ _ h => h) (Or.inl ⟨by rfl, ?_⟩) ?_ ?_
              rotate_left
              ·intro w'; go_simp; with_reducible rfl
              rotate_left
              ·simp only [Act.put, List.setIfInBounds_toArray, List.set_cons_zero, List.set_cons_succ, i64_w, i32_w]; rfl
              refine pure_ (i := 6) (N := some 26) (v := ?_) (a' := ?_) #[y_,y_,y_,y_,y_,y_,y_,n_,n_,n_,n_,n_,n_,n_,n_,n_,n_,n_,n_,n_,n_,n_] rfl rfl (any_of HT_.out (by kernel_rfl)) (fun _ _ _ h => h) (Or.inl ⟨by rfl, ?_⟩) ?_ ?_
              rotate_left
              ·intro w'; go_simp; with_reducible rfl
              rotate_left
              ·simp only [Act.put, List.setIfInBounds_toArray, List.set_cons_zero, List.set_cons_succ, i64_w, i32_w]; rfl
              refine pure_ (i := 7) (N := some 27) (v := ?_) (a' := ?_) #[y_,y_,y_,y_,y_,y_,y_,y_,n_,n_,n_,n_,n_,n_,n_,n_,n_,n_,n_,n_,n_,n_] rfl rfl (any_of HT_.out (by kernel_rfl)) (fun _ _ _ h => h) (Or.inl ⟨by rfl, ?_⟩) ?_ ?_
              rotate_left
              ·intro w'; go_simp; with_reducible rfl
              rotate_left
              ·simp only [Act.put, List.setIfInBounds_toArray, List.set_cons_zero, List.set_cons_succ, i64_w, i32_w]; rfl
              refine pure_ (i := 8) (N := some 28) (v := ?_) (a' := ?_) #[y_,y_,y_,y_,y_,y_,y_,y_,y_,n_,n_,n_,n_,n_,n_,n_,n_,n_,n_,n_,n_,n_] rfl rfl (any_of HT_.out (by kernel_rfl)) (fun _ _ _ h => h) (Or.inl ⟨by rfl, ?_⟩) ?_ ?_
              rotate_left
              ·intro w'; go_simp; with_reducible rfl
              rotate_left
              ·simp only [Act.put, List.setIfInBounds_toArray, List.set_cons_zero, List.set_cons_succ, i64_w, i32_w]; rfl
              refine pure_ (i := 9) (N := some 29) (v := ?_) (a' := ?_) #[y_,y_,y_,y_,y_,y_,y_,y_,y_,y_,n_,n_,n_,n_,n_,n_,n_,n_,n_,n_,n_,n_] rfl rfl (any_of HT_.out (by kernel_rfl)) (fun _ _ _ h => h) (Or.inl ⟨by rfl, ?_⟩) ?_ ?_
              rotate_left
              ·intro w'; go_simp; with_reducible rfl
              rotate_left
              ·simp only [Act.put, List.setIfInBounds_toArray, List.set_cons_zero, List.set_cons_succ, i64_w, i32_w]; rfl
              refine pure_ (i := 10) (N := some 30) (v := ?_) (a' := ?_) #[y_,y_,y_,y_,y_,y_,y_,y_,y_,y_,y_,n_,n_,n_,n_,n_,n_,n_,n_,n_,n_,n_] rfl rfl (any_of HT_.out (by kernel_rfl)) (fun _ _ _ h => h) (Or.inl ⟨by rfl, ?_⟩) ?_ ?_
              rotate_left
              ·intro w'; go_simp; with_reducible rfl
              rotate_left
              ·simp only [Act.put, List.setIfInBounds_toArray, List.set_cons_zero, List.set_cons_succ, i64_w, i32_w]; rfl
              refine pure_ (i := 11) (N := some 31) (v := ?_) (a' := ?_) #[y_,y_,y_,y_,y_,y_,y_,y_,y_,y_,y_,y_,n_,n_,n_,n_,n_,n_,n_,n_,n_,n_] rfl rfl (any_of HT_.out (by kernel_rfl)) (fun _ _ _ h => h) (Or.inl ⟨by rfl, ?_⟩) ?_ ?_
              rotate_left
              ·intro w'; go_simp; with_reducible rfl
              rotate_left
              ·simp only [Act.put, List.setIfInBounds_toArray, List.set_cons_zero, List.set_cons_succ, i64_w, i32_w]; rfl
              refine pure_ (i := 14) (N := some 34) (v := ?_) (a' := ?_) #[y_,y_,y_,y_,y_,y_,y_,y_,y_,y_,y_,y_,n_,n_,y_,n_,n_,n_,n_,n_,n_,n_] rfl rfl (any_of HT_.out (by kernel_rfl)) (fun _ _ _ h => h) (Or.inl ⟨by rfl, ?_⟩) ?_ ?_
              rotate_left
              ·intro w'; go_simp; with_reducible rfl
              rotate_left
              ·simp only [Act.put, List.setIfInBounds_toArray, List.set_cons_zero, List.set_cons_succ, i64_w, i32_w]; rfl
              refine pure_ (i := 15) (N := some 35) (v := ?_) (a' := ?_) #[y_,y_,y_,y_,y_,y_,y_,y_,y_,y_,y_,y_,n_,n_,y_,y_,n_,n_,n_,n_,n_,n_] rfl rfl (any_of HT_.out (by kernel_rfl)) (fun _ _ _ h => h) (Or.inl ⟨by rfl, ?_⟩) ?_ ?_
              rotate_left
              ·intro w'; go_simp; with_reducible rfl
              rotate_left
              ·simp only [Act.put, List.setIfInBounds_toArray, List.set_cons_zero, List.set_cons_succ, i64_w, i32_w]; rfl
              refine pure_ (i := 16) (N := some 36) (v := ?_) (a' := ?_) #[y_,y_,y_,y_,y_,y_,y_,y_,y_,y_,y_,y_,n_,n_,y_,y_,y_,n_,n_,n_,n_,n_] rfl rfl (any_of HT_.out (by kernel_rfl)) (fun _ _ _ h => h) (Or.inl ⟨by rfl, ?_⟩) ?_ ?_
              rotate_left
              ·intro w'; go_simp; with_reducible rfl
              rotate_left
              ·simp only [Act.put, List.setIfInBounds_toArray, List.set_cons_zero, List.set_cons_succ, i64_w, i32_w]; rfl
              refine pure_ (i := 17) (N := some 37) (v := ?_) (a' := ?_) #[y_,y_,y_,y_,y_,y_,y_,y_,y_,y_,y_,y_,n_,n_,y_,y_,y_,y_,n_,n_,n_,n_] rfl rfl (any_of HT_.out (by kernel_rfl)) (fun _ _ _ h => h) (Or.inl ⟨by rfl, ?_⟩) ?_ ?_
              rotate_left
              ·intro w'; go_simp; with_reducible rfl
              rotate_left
              ·simp only [Act.put, List.setIfInBounds_toArray, List.set_cons_zero, List.set_cons_succ, i64_w, i32_w]; rfl
              refine take_ (i := 12) (N := some 32) (v := ?_) (a' := ?_) #[y_,y_,y_,y_,y_,y_,y_,y_,y_,y_,y_,y_,y_,n_,y_,y_,y_,y_,n_,n_,n_,n_] rfl rfl (take_ofW HT_.out HW_.out (by kernel_rfl)) (fun _ _ _ h => h) (Or.inl ⟨by rfl, ?_⟩) hHeld ?_ ?_
              rotate_left
              ·rintro w' ⟨s0, s1, s2, s3, s4, s5⟩; go_simp; with_reducible rfl
              rotate_left
              ·simp only [Act.put, List.setIfInBounds_toArray, List.set_cons_zero, List.set_cons_succ, i64_w, i32_w]; rfl
              refine take_ (i := 13) (N := some 33) (v := ?_) (a' := ?_) #[y_,y_,y_,y_,y_,y_,y_,y_,y_,y_,y_,y_,y_,y_,y_,y_,y_,y_,n_,n_,n_,n_] rfl rfl (take_ofW HT_.out HW_.out (by kernel_rfl)) (fun _ _ _ h => h) (Or.inl ⟨by rfl, ?_⟩) hHeld ?_ ?_
              rotate_left
              ·rintro w' ⟨s0, s1, s2, s3, s4, s5⟩; go_simp; with_reducible rfl
              rotate_left
              ·simp only [Act.put, List.setIfInBounds_toArray, List.set_cons_zero, List.set_cons_succ, i64_w, i32_w]; rfl
              refine take_ (i := 18) (N := some 38) (v := ?_) (a' := ?_) #[y_,y_,y_,y_,y_,y_,y_,y_,y_,y_,y_,y_,y_,y_,y_,y_,y_,y_,y_,n_,n_,n_] rfl rfl (take_ofW HT_.out HW_.out (by kernel_rfl)) (fun _ _ _ h => h) (Or.inl ⟨by rfl, ?_⟩) hHeld ?_ ?_
              rotate_left
              ·rintro w' ⟨s0, s1, s2, s3, s4, s5⟩; go_simp; with_reducible rfl
              rotate_left
              ·simp only [Act.put, List.setIfInBounds_toArray, List.set_cons_zero, List.set_cons_succ, i64_w, i32_w]; rfl
              refine one_ (i := 19) (N := some 39) #[y_,y_,y_,y_,y_,y_,y_,y_,y_,y_,y_,y_,y_,y_,y_,y_,y_,y_,y_,y_,n_,n_] rfl rfl (one_of HT_.out (by kernel_rfl)) (by decide) (fun K hK => ?_); refine goes_ Tryd.func47 (by kernel_rfl) rfl #[.agg #[.int .i64 ((rd_T35 l0 (ji24)).f0), .int .i64 ((rd_T35 l0 (ji24)).f1)], .agg #[.int .i64 ((rd_T35 l0 x15_1).f0), .int .i64 ((rd_T35 l0 x15_1).f1)], .agg #[.int .i64 ((rd_T35 l0 (ji27)).f0), .int .i64 ((rd_T35 l0 (ji27)).f1)]] (by rfl) rfl rfl (by (try simp only [List.map_toArray, List.map_cons, List.map_nil]); first | done | (simp only [hji24, hji27]; rfl) | rfl | (simp only [List.length_drop, List.length_take]; rfl)) ?_
              with_reducible refine (impl_goesOn.calls ((rd_T35 l0 (ji24)).f0) ((rd_T35 l0 (ji24)).f1) ((rd_T35 l0 x15_1).f0) ((rd_T35 l0 x15_1).f1) ((rd_T35 l0 (ji27)).f0) ((rd_T35 l0 (ji27)).f1) true _ A30.out).mono ?_
              rintro e w36 ⟨rfl, hb⟩; refine ⟨_, rfl, ?_⟩; have n0_ := Aside0.mk (Kd.R_below (bR HO_3) hb); have n1_ := Aside0.mk (blk_below (g := gb103) (o := .cells #[.int .i64 ((rd_T35 l0 x15_1).f0), .int .i64 ((rd_T35 l0 x15_1).f1)] 35 (0, 0)) (bA BK103) hb); have n2_ := Aside0.mk (below_step (bC1 HB GE103.out) hb); clear HO_3; clear BK103; clear HB; have HO_3 := n0_; have BK103 := n1_; have HB := n2_; clear n0_ n1_ n2_; (try clear hb); (try clear hb2); (try clear hk); (try clear hi); refine hK.out _ _ ⟨(blk_cell BK103.out 0).trans rfl, (blk_cell BK103.out 1).trans rfl, ((HB.out.cell (World.block_lt_of_cell? w _ hw110_0)).trans hw110_0), ((HB.out.cell (World.block_lt_of_cell? w _ hw110_1)).trans hw110_1), ((HB.out.cell (World.block_lt_of_cell? w _ hw111_0)).trans hw111_0), ((HB.out.cell (World.block_lt_of_cell? w _ hw111_1)).trans hw111_1)⟩ (fun hHeld => ?_); clear hK K; refine norm_ (a' := ?_) ?_ ?_
              rotate_left
              ·show Act.put _ (some 39) _ = _
               simp only [Act.put, List.setIfInBounds_toArray, List.set_cons_zero, List.set_cons_succ, i64_w, i32_w]; rfl
              refine pure_ (i := 20) (N := some 40) (v := ?_) (a' := ?_) #[y_,y_,y_,y_,y_,y_,y_,y_,y_,y_,y_,y_,y_,y_,y_,y_,y_,y_,y_,y_,y_,n_] rfl rfl (any_of HT_.out (by kernel_rfl)) (fun _ _ _ h => h) (Or.inl ⟨by rfl, ?_⟩) ?_ ?_
              rotate_left
              ·intro w'; go_simp; with_reducible rfl
              rotate_left
              ·simp only [Act.put, List.setIfInBounds_toArray, List.set_cons_zero, List.set_cons_succ, i64_w, i32_w]; rfl
              refine pure_ (i := 21) (N := some 41) (v := ?_) (a' := ?_) #[y_,y_,y_,y_,y_,y_,y_,y_,y_,y_,y_,y_,y_,y_,y_,y_,y_,y_,y_,y_,y_,y_] rfl rfl (any_of HT_.out (by kernel_rfl)) (fun _ _ _ h => h) (Or.inl ⟨by rfl, ?_⟩) ?_ ?_
              rotate_left
              ·intro w'; go_simp; with_reducible rfl
              rotate_left
              ·simp only [Act.put, List.setIfInBounds_toArray, List.set_cons_zero, List.set_cons_succ, i64_w, i32_w]; rfl
              refine done_ (done_of HT_.out (by kernel_rfl)) ?_
              try go_wp2
              go_roundg k1
              case measure => have := HK1.out; omega
              case rel => exact ⟨(x3_1), (ji27), (by first | rfl | (simp; done) | (simp only [← hji27] <;> (first | rfl | simp)) | (simp [*]; done)), H', ⟨by have := HK1.out; omega⟩, ⟨by (with_reducible repeat (first | apply Kd.R_alloc | apply Kd.R_drewN | apply Kd.R_drew)); exact Kd.R_mono HO_3.out (fun _ hk => trivial)⟩, ⟨(bC1 HB GE103.out)⟩⟩
             ·replace c31 := Bool.eq_false_iff.mpr c31
              subst c31
              have H1 : (if x3_1.length < 8796093022208 then (impl_CodeTurns.l0 k1 l0 (x3_1 ++ [(⟨(rd_T35 l0 x15_1).f0, (rd_T35 l0 x15_1).f1⟩ : S35)]) (wrap64 ((l0.length : Int) - 1)) l0 (l0.length : Int) ji27) else (none)) = some r := by rw [if_neg (show ¬ (false = true) by decide)] at H; exact H
              clear H; have H := H1; clear H1
              by_cases c37 : x3_1.length < 8796093022208
              ·rw [if_pos c37] at H
               have LMc37 := Aside0.mk c37; clear c37; obtain ⟨y113, hy113⟩ : ∃ y_ : List (S35), y_ = (x3_1 ++ [(⟨(rd_T35 l0 x15_1).f0, (rd_T35 l0 x15_1).f1⟩ : S35)]) := ⟨_, rfl⟩
               replace H : (impl_CodeTurns.l0 k1 l0 y113 (wrap64 ((l0.length : Int) - 1)) l0 (l0.length : Int) ji27) = some r := by first | (rw [hy113]; with_reducible exact H) | (have H2_ := (Option.bind_some _ _).symm.trans H; rw [hy113]; with_reducible exact H2_) | (have H2_ := (Option.bind_some _ _).symm.trans H; with_reducible exact H2_) | with_reducible exact H | (rw [hy113]; exact H) | exact H
               have Ny113 := Aside0.mk hy113; clear hy113; have H' := Aside0.mk H; clear H; have p102 : 0 ≤ (x15_1 : Int) := of_decide_eq_true bX; have q102 : x15_1 < (l0.length : Int) := of_decide_eq_true bX; obtain ⟨ad102, e102, hx102_0, hx102_1⟩ := at_T35 HR0.out x15_1 p102 q102
               cases e102
               replace hx102_0 := (HB.out.cell (World.block_lt_of_cell? w _ hx102_0)).trans hx102_0; replace hx102_1 := (HB.out.cell (World.block_lt_of_cell? w _ hx102_1)).trans hx102_1; replace p102 := eq_true p102; replace q102 := eq_true q102
               try go_wp2_with (first | ((with_reducible refine gate_dst (N := 6) rfl ?_); refine box_event ?hg (N := 6) ?hd (cs := #[.int .i64 0, .int .i64 0]) (t := 35) ?hr ?_; (case hd => rfl); (case hg => rfl); (case hr => first | (go_simp; done) | (go_simp; rfl)); intro gb103 hg w38 hbox hb; have n0_ := Aside0.mk (Kd.R_below (Kd.R_elderB (bR HO_3) gb103 (Nat.le_of_eq hg.symm)) hb); have n1_ := Aside0.mk (below_step (bC0 HB) hb); have n2_ := Aside0.mk (hbox); have n3_ := Aside0.mk ((by rw [hg]; exact (below_size (bC0 HB)) : w.heap.size ≤ gb103)); have n4_ := Aside0.mk ((by rw [hg]; exact (below_size (bC0 HB)) : w.heap.size ≤ gb103)); clear HO_3; clear HB; have HO_3 := n0_; have HB := n1_; have BK103 := n2_; have GW103 := n3_; have GE103 := n4_; clear n0_ n1_ n2_ n3_ n4_; clear hb hbox hg; have hcz39_0 : w38.cell? ⟨gb103, 0, none⟩ = some (.int .i64 0) := (blk_cell BK103.out 0).trans rfl; have hcz39_1 : w38.cell? ⟨gb103, 1, none⟩ = some (.int .i64 0) := (blk_cell BK103.out 1).trans rfl; have hfz39_0 := blk_frozen BK103.out 0; have hfz39_1 := blk_frozen BK103.out 1))
               have n0_ : Aside0 (Kd.R k35 35 ((w38.setCell ⟨gb103, 0, none⟩ (.int .i64 ((rd_T35 l0 x15_1).f0))).setCell ⟨gb103, 1, none⟩ (.int .i64 ((rd_T35 l0 x15_1).f1))) w.heap.size (fun k_ => k_ ≠ gb103) u3 x3_1) := ⟨by (with_reducible repeat (first | apply Kd.R_alloc | apply Kd.R_drewN | apply Kd.R_drew)); exact Kd.R_mono (Kd.R_far (p := ⟨gb103, 1, none⟩) (Kd.R_far (p := ⟨gb103, 0, none⟩) (Kd.R_mono HO_3.out (fun k_ hk => (⟨hk, hk.2⟩ : _ ∧ k_ ≠ gb103))) (fun _ hk => hk.2) (.int .i64 ((rd_T35 l0 x15_1).f0))) (fun _ hk => hk.2) (.int .i64 ((rd_T35 l0 x15_1).f1))) (fun _ hk => hk.1.2)⟩; have n1_ : Aside0 (((w38.setCell ⟨gb103, 0, none⟩ (.int .i64 ((rd_T35 l0 x15_1).f0))).setCell ⟨gb103, 1, none⟩ (.int .i64 ((rd_T35 l0 x15_1).f1))).heap[gb103]? = some (.cells #[.int .i64 ((rd_T35 l0 x15_1).f0), .int .i64 ((rd_T35 l0 x15_1).f1)] 35 (0, 0))) := ⟨by (with_reducible repeat (first | refine blk_drewN ?_ _ | refine blk_drew ?_ | refine blk_alloc ?_ _)); refine blk_put (cs := #[.int .i64 ((rd_T35 l0 x15_1).f0), .int .i64 0]) ?_ 1 _ rfl; (with_reducible repeat (first | refine blk_drewN ?_ _ | refine blk_drew ?_ | refine blk_alloc ?_ _)); refine blk_put (cs := #[.int .i64 0, .int .i64 0]) ?_ 0 _ rfl; (with_reducible repeat (first | refine blk_drewN ?_ _ | refine blk_drew ?_ | refine blk_alloc ?_ _)); exact BK103.out⟩; have n2_ : Aside0 (Below w.heap.size w ((w38.setCell ⟨gb103, 0, none⟩ (.int .i64 ((rd_T35 l0 x15_1).f0))).setCell ⟨gb103, 1, none⟩ (.int .i64 ((rd_T35 l0 x15_1).f1)))) := ⟨(bC1 HB GE103.out)⟩; (try clear HO_3); (try clear BK103); (try clear HB); generalize ((w38.setCell ⟨gb103, 0, none⟩ (.int .i64 ((rd_T35 l0 x15_1).f0))).setCell ⟨gb103, 1, none⟩ (.int .i64 ((rd_T35 l0 x15_1).f1))) = w40 at n0_ n1_ n2_ ⊢; have HO_3 := n0_; have BK103 := n1_; have HB := n2_; clear n0_ n1_ n2_; have n0_ := Aside0.mk (Kd.R_drew HO_3.out); have n1_ := Aside0.mk (blk_drew BK103.out); have n2_ := Aside0.mk (below_drew1 HB.out); clear HO_3; clear BK103; clear HB; have HO_3 := n0_; have BK103 := n1_; have HB := n2_; clear n0_ n1_ n2_; have p110 : 0 ≤ ((ji24) : Int) := of_decide_eq_true bX; have q110 : (ji24) < (l0.length : Int) := of_decide_eq_true bX; obtain ⟨ad110, e110, hx110_0, hx110_1⟩ := at_T35 HR0.out (ji24) p110 q110; have hw110_1 := hx110_1; have hw110_0 := hx110_0; obtain rfl : ad102 = ad110 := (by injection e110); replace hx110_0 := (HB.out.cell (World.block_lt_of_cell? w _ hx110_0)).trans hx110_0; replace hx110_1 := (HB.out.cell (World.block_lt_of_cell? w _ hx110_1)).trans hx110_1; replace p110 := eq_true p110; replace q110 := eq_true q110; have p111 : 0 ≤ ((ji27) : Int) := of_decide_eq_true bX; have q111 : (ji27) < (l0.length : Int) := of_decide_eq_true bX; obtain ⟨ad111, e111, hx111_0, hx111_1⟩ := at_T35 HR0.out (ji27) p111 q111; have hw111_1 := hx111_1; have hw111_0 := hx111_0; obtain rfl : ad102 = ad111 := (by injection e111); replace hx111_0 := (HB.out.cell (World.block_lt_of_cell? w _ hx111_0)).trans hx111_0; replace hx111_1 := (HB.out.cell (World.block_lt_of_cell? w _ hx111_1)).trans hx111_1; replace p111 := eq_true p111; replace q111 := eq_true q111; refine start_ (n := 22) (S := fun w' => w'.cell? ⟨gb103, 0, none⟩ = some (.int .i64 ((rd_T35 l0 x15_1).f0)) ∧ w'.cell? ⟨gb103, 1, none⟩ = some (.int .i64 ((rd_T35 l0 x15_1).f1)) ∧ w'.cell? (ad102.add (((ji24)).toNat * 2)) = some (.int .i64 ((rd_T35 l0 (ji24)).f0)) ∧ w'.cell? ⟨(ad102.add (((ji24)).toNat * 2)).block, (ad102.add (((ji24)).toNat * 2)).off + 1, none⟩ = some (.int .i64 ((rd_T35 l0 (ji24)).f1)) ∧ w'.cell? (ad102.add (((ji27)).toNat * 2)) = some (.int .i64 ((rd_T35 l0 (ji27)).f0)) ∧ w'.cell? ⟨(ad102.add (((ji27)).toNat * 2)).block, (ad102.add (((ji27)).toNat * 2)).off + 1, none⟩ = some (.int .i64 ((rd_T35 l0 (ji27)).f1))) (ds := []) #[n_,n_,n_,n_,n_,n_,n_,n_,n_,n_,n_,n_,n_,n_,n_,n_,n_,n_,n_,n_,n_,n_] (by kernel_rfl) rfl rfl ⟨(blk_cell BK103.out 0).trans rfl, (blk_cell BK103.out 1).trans rfl, ((HB.out.cell (World.block_lt_of_cell? w _ hw110_0)).trans hw110_0), ((HB.out.cell (World.block_lt_of_cell? w _ hw110_1)).trans hw110_1), ((HB.out.cell (World.block_lt_of_cell? w _ hw111_0)).trans hw111_0), ((HB.out.cell (World.block_lt_of_cell? w _ hw111_1)).trans hw111_1)⟩ (fun hHeld => ?_); refine with_tabW impl_CodeTurns.tab8 impl_CodeTurns.bits8 (fun HT_ HW_ => ?_)
               generalize w40.drew = w41 at HO_3 BK103 HB hx110_0 hx110_1 hx111_0 hx111_1 hHeld ⊢; refine pure_ (i := 0) (N := some 20) (v := ?_) (a' := ?_) #[y_,n_,n_,n_,n_,n_,n_,n_,n_,n_,n_,n_,n_,n_,n_,n_,n_,n_,n_,n_,n_,n_] rfl rfl (any_of HT_.out (by kernel_rfl)) (fun _ _ _ h => h) (Or.inl ⟨by rfl, ?_⟩) ?_ ?_
               rotate_left
               ·intro w'; go_simp; with_reducible rfl
               rotate_left
               ·simp only [Act.put, List.setIfInBounds_toArray, List.set_cons_zero, List.set_cons_succ, i64_w, i32_w]; rfl
               refine pure_ (i := 1) (N := some 21) (v := ?_) (a' := ?_) #[y_,y_,n_,n_,n_,n_,n_,n_,n_,n_,n_,n_,n_,n_,n_,n_,n_,n_,n_,n_,n_,n_] rfl rfl (any_of HT_.out (by kernel_rfl)) (fun _ _ _ h => h) (Or.inl ⟨by rfl, ?_⟩) ?_ ?_
               rotate_left
               ·intro w'; go_simp; with_reducible rfl
               rotate_left
               ·simp only [Act.put, List.setIfInBounds_toArray, List.set_cons_zero, List.set_cons_succ, i64_w, i32_w]; rfl
               refine pure_ (i := 2) (N := some 22) (v := ?_) (a' := ?_) #[y_,y_,y_,n_,n_,n_,n_,n_,n_,n_,n_,n_,n_,n_,n_,n_,n_,n_,n_,n_,n_,n_] rfl rfl (any_of HT_.out (by kernel_rfl)) (fun _ _ _ h => h) (Or.inl ⟨by rfl, ?_⟩) ?_ ?_
               rotate_left
               ·intro w'; go_simp; with_reducible rfl
               rotate_left
               ·simp only [Act.put, List.setIfInBounds_toArray, List.set_cons_zero, List.set_cons_succ, i64_w, i32_w]; rfl
               refine pure_ (i := 3) (N := some 23) (v := ?_) (a' := ?_) #[y_,y_,y_,y_,n_,n_,n_,n_,n_,n_,n_,n_,n_,n_,n_,n_,n_,n_,n_,n_,n_,n_] rfl rfl (any_of HT_.out (by kernel_rfl)) (fun _ _ _ h => h) (Or.inl ⟨by rfl, ?_⟩) ?_ ?_
               rotate_left
               ·intro w'; go_simp; with_reducible rfl
               rotate_left
               ·simp only [Act.put, List.setIfInBounds_toArray, List.set_cons_zero, List.set_cons_succ, i64_w, i32_w]; rfl
               refine pure_ (i := 4) (N := some 24) (v := ?_) (a' := ?_) #[y_,y_,y_,y_,y_,n_,n_,n_,n_,n_,n_,n_,n_,n_,n_,n_,n_,n_,n_,n_,n_,n_] rfl rfl (any_of HT_.out (by kernel_rfl)) (fun _ _ _ h => h) (Or.inl ⟨by rfl, ?_⟩) ?_ ?_
               rotate_left
               ·intro w'; go_simp; with_reducible rfl
               rotate_left
               ·simp only [Act.put, List.setIfInBounds_toArray, List.set_cons_zero, List.set_cons_succ, i64_w, i32_w]; rfl
               refine pure_ (i := 5) (N := some 25) (v := ?_) (a' := ?_) #[y_,y_,y_,y_,y_,y_,n_,n_,n_,n_,n_,n_,n_,n_,n_,n_,n_,n_,n_,n_,n_,n_] rfl rfl (any_of HT_.out (by kernel_rfl)) (fun _ _ _ h => h) (Or.inl ⟨by rfl, ?_⟩) ?_ ?_
               rotate_left
               ·intro w'; go_simp; with_reducible rfl
               rotate_left
               ·simp only [Act.put, List.setIfInBounds_toArray, List.set_cons_zero, List.set_cons_succ, i64_w, i32_w]; rfl
               refine pure_ (i := 6) (N := some 26) (v := ?_) (a' := ?_) #[y_,y_,y_,y_,y_,y_,y_,n_,n_,n_,n_,n_,n_,n_,n_,n_,n_,n_,n_,n_,n_,n_] rfl rfl (any_of HT_.out (by kernel_rfl)) (fun _ _ _ h => h) (Or.inl ⟨by rfl, ?_⟩) ?_ ?_
               rotate_left
               ·intro w'; go_simp; with_reducible rfl
               rotate_left
               ·simp only [Act.put, List.setIfInBounds_toArray, List.set_cons_zero, List.set_cons_succ, i64_w, i32_w]; rfl
               refine pure_ (i := 7) (N := some 27) (v := ?_) (a' := ?_) #[y_,y_,y_,y_,y_,y_,y_,y_,n_,n_,n_,n_,n_,n_,n_,n_,n_,n_,n_,n_,n_,n_] rfl rfl (any_of HT_.out (by kernel_rfl)) (fun _ _ _ h => h) (Or.inl ⟨by rfl, ?_⟩) ?_ ?_
               rotate_left
               ·intro w'; go_simp; with_reducible rfl
               rotate_left
               ·simp only [Act.put, List.setIfInBounds_toArray, List.set_cons_zero, List.set_cons_succ, i64_w, i32_w]; rfl
               refine pure_ (i := 8) (N := some 28) (v := ?_) (a' := ?_) #[y_,y_,y_,y_,y_,y_,y_,y_,y_,n_,n_,n_,n_,n_,n_,n_,n_,n_,n_,n_,n_,n_] rfl rfl (any_of HT_.out (by kernel_rfl)) (fun _ _ _ h => h) (Or.inl ⟨by rfl, ?_⟩) ?_ ?_
               rotate_left
               ·intro w'; go_simp; with_reducible rfl
               rotate_left
               ·simp only [Act.put, List.setIfInBounds_toArray, List.set_cons_zero, List.set_cons_succ, i64_w, i32_w]; rfl
               refine pure_ (i := 9) (N := some 29) (v := ?_) (a' := ?_) #[y_,y_,y_,y_,y_,y_,y_,y_,y_,y_,n_,n_,n_,n_,n_,n_,n_,n_,n_,n_,n_,n_] rfl rfl (any_of HT_.out (by kernel_rfl)) (fun _ _ _ h => h) (Or.inl ⟨by rfl, ?_⟩) ?_ ?_
               rotate_left
               ·intro w'; go_simp; with_reducible rfl
               rotate_left
               ·simp only [Act.put, List.setIfInBounds_toArray, List.set_cons_zero, List.set_cons_succ, i64_w, i32_w]; rfl
               refine pure_ (i := 10) (N := some 30) (v := ?_) (a' := ?_) #[y_,y_,y_,y_,y_,y_,y_,y_,y_,y_,y_,n_,n_,n_,n_,n_,n_,n_,n_,n_,n_,n_] rfl rfl (any_of HT_.out (by kernel_rfl)) (fun _ _ _ h => h) (Or.inl ⟨by rfl, ?_⟩) ?_ ?_
               rotate_left
               ·intro w'; go_simp; with_reducible rfl
               rotate_left
               ·simp only [Act.put, List.setIfInBounds_toArray, List.set_cons_zero, List.set_cons_succ, i64_w, i32_w]; rfl
               refine pure_ (i := 11) (N := some 31) (v := ?_) (a' := ?_) #[y_,y_,y_,y_,y_,y_,y_,y_,y_,y_,y_,y_,n_,n_,n_,n_,n_,n_,n_,n_,n_,n_] rfl rfl (any_of HT_.out (by kernel_rfl)) (fun _ _ _ h => h) (Or.inl ⟨by rfl, ?_⟩) ?_ ?_
               rotate_left
               ·intro w'; go_simp; with_reducible rfl
               rotate_left
               ·simp only [Act.put, List.setIfInBounds_toArray, List.set_cons_zero, List.set_cons_succ, i64_w, i32_w]; rfl
               refine pure_ (i := 14) (N := some 34) (v := ?_) (a' := ?_) #[y_,y_,y_,y_,y_,y_,y_,y_,y_,y_,y_,y_,n_,n_,y_,n_,n_,n_,n_,n_,n_,n_] rfl rfl (any_of HT_.out (by kernel_rfl)) (fun _ _ _ h => h) (Or.inl ⟨by rfl, ?_⟩) ?_ ?_
               rotate_left
               ·intro w'; go_simp; with_reducible rfl
               rotate_left
               ·simp only [Act.put, List.setIfInBounds_toArray, List.set_cons_zero, List.set_cons_succ, i64_w, i32_w]; rfl
               refine pure_ (i := 15) (N := some 35) (v := ?_) (a' := ?_) #[y_,y_,y_,y_,y_,y_,y_,y_,y_,y_,y_,y_,n_,n_,y_,y_,n_,n_,n_,n_,n_,n_] rfl rfl (any_of HT_.out (by kernel_rfl)) (fun _ _ _ h => h) (Or.inl ⟨by rfl, ?_⟩) ?_ ?_
               rotate_left
               ·intro w'; go_simp; with_reducible rfl
               rotate_left
               ·simp only [Act.put, List.setIfInBounds_toArray, List.set_cons_zero, List.set_cons_succ, i64_w, i32_w]; rfl
               refine pure_ (i := 16) (N := some 36) (v := ?_) (a' := ?_) #[y_,y_,y_,y_,y_,y_,y_,y_,y_,y_,y_,y_,n_,n_,y_,y_,y_,n_,n_,n_,n_,n_] rfl rfl (any_of HT_.out (by kernel_rfl)) (fun _ _ _ h => h) (Or.inl ⟨by rfl, ?_⟩) ?_ ?_
               rotate_left
               ·intro w'; go_simp; with_reducible rfl
               rotate_left
               ·simp only [Act.put, List.setIfInBounds_toArray, List.set_cons_zero, List.set_cons_succ, i64_w, i32_w]; rfl
               refine pure_ (i := 17) (N := some 37) (v := ?_) (a' := ?_) #[y_,y_,y_,y_,y_,y_,y_,y_,y_,y_,y_,y_,n_,n_,y_,y_,y_,y_,n_,n_,n_,n_] rfl rfl (any_of HT_.out (by kernel_rfl)) (fun _ _ _ h => h) (Or.inl ⟨by rfl, ?_⟩) ?_ ?_
               rotate_left
               ·intro w'; go_simp; with_reducible rfl
               rotate_left
               ·simp only [Act.put, List.setIfInBounds_toArray, List.set_cons_zero, List.set_cons_succ, i64_w, i32_w]; rfl
               refine take_ (i := 12) (N := some 32) (v := ?_) (a' := ?_) #[y_,y_,y_,y_,y_,y_,y_,y_,y_,y_,y_,y_,y_,n_,y_,y_,y_,y_,n_,n_,n_,n_] rfl rfl (take_ofW HT_.out HW_.out (by kernel_rfl)) (fun _ _ _ h => h) (Or.inl ⟨by rfl, ?_⟩) hHeld ?_ ?_
               rotate_left
               ·rintro w' ⟨s0, s1, s2, s3, s4, s5⟩; go_simp; with_reducible rfl
               rotate_left
               ·simp only [Act.put, List.setIfInBounds_toArray, List.set_cons_zero, List.set_cons_succ, i64_w, i32_w]; rfl
               refine take_ (i := 13) (N := some 33) (v := ?_) (a' := ?_) #[y_,y_,y_,y_,y_,y_,y_,y_,y_,y_,y_,y_,y_,y_,y_,y_,y_,y_,n_,n_,n_,n_] rfl rfl (take_ofW HT_.out HW_.out (by kernel_rfl)) (fun _ _ _ h => h) (Or.inl ⟨by rfl, ?_⟩) hHeld ?_ ?_
               rotate_left
               ·rintro w' ⟨s0, s1, s2, s3, s4, s5⟩; go_simp; with_reducible rfl
               rotate_left
               ·simp only [Act.put, List.setIfInBounds_toArray, List.set_cons_zero, List.set_cons_succ, i64_w, i32_w]; rfl
               refine take_ (i := 18) (N := some 38) (v := ?_) (a' := ?_) #[y_,y_,y_,y_,y_,y_,y_,y_,y_,y_,y_,y_,y_,y_,y_,y_,y_,y_,y_,n_,n_,n_] rfl rfl (take_ofW HT_.out HW_.out (by kernel_rfl)) (fun _ _ _ h => h) (Or.inl ⟨by rfl, ?_⟩) hHeld ?_ ?_
               rotate_left
               ·rintro w' ⟨s0, s1, s2, s3, s4, s5⟩; go_simp; with_reducible rfl
               rotate_left
               ·simp only [Act.put, List.setIfInBounds_toArray, List.set_cons_zero, List.set_cons_succ, i64_w, i32_w]; rfl
               refine one_ (i := 19) (N := some 39) #[y_,y_,y_,y_,y_,y_,y_,y_,y_,y_,y_,y_,y_,y_,y_,y_,y_,y_,y_,y_,n_,n_] rfl rfl (one_of HT_.out (by kernel_rfl)) (by decide) (fun K hK => ?_); refine goes_ Tryd.func47 (by kernel_rfl) rfl #[.agg #[.int .i64 ((rd_T35 l0 (ji24)).f0), .int .i64 ((rd_T35 l0 (ji24)).f1)], .agg #[.int .i64 ((rd_T35 l0 x15_1).f0), .int .i64 ((rd_T35 l0 x15_1).f1)], .agg #[.int .i64 ((rd_T35 l0 (ji27)).f0), .int .i64 ((rd_T35 l0 (ji27)).f1)]] (by rfl) rfl rfl (by (try simp only [List.map_toArray, List.map_cons, List.map_nil]); first | done | (simp only [hji24, hji27]; rfl) | rfl | (simp only [List.length_drop, List.length_take]; rfl)) ?_
               with_reducible refine (impl_goesOn.calls ((rd_T35 l0 (ji24)).f0) ((rd_T35 l0 (ji24)).f1) ((rd_T35 l0 x15_1).f0) ((rd_T35 l0 x15_1).f1) ((rd_T35 l0 (ji27)).f0) ((rd_T35 l0 (ji27)).f1) false _ A30.out).mono ?_
               rintro e w42 ⟨rfl, hb⟩; refine ⟨_, rfl, ?_⟩; have n0_ := Aside0.mk (Kd.R_below (bR HO_3) hb); have n1_ := Aside0.mk (blk_below (g := gb103) (o := .cells #[.int .i64 ((rd_T35 l0 x15_1).f0), .int .i64 ((rd_T35 l0 x15_1).f1)] 35 (0, 0)) (bA BK103) hb); have n2_ := Aside0.mk (below_step (bC1 HB GE103.out) hb); clear HO_3; clear BK103; clear HB; have HO_3 := n0_; have BK103 := n1_; have HB := n2_; clear n0_ n1_ n2_; (try clear hb); (try clear hb2); (try clear hk); (try clear hi); refine hK.out _ _ ⟨(blk_cell BK103.out 0).trans rfl, (blk_cell BK103.out 1).trans rfl, ((HB.out.cell (World.block_lt_of_cell? w _ hw110_0)).trans hw110_0), ((HB.out.cell (World.block_lt_of_cell? w _ hw110_1)).trans hw110_1), ((HB.out.cell (World.block_lt_of_cell? w _ hw111_0)).trans hw111_0), ((HB.out.cell (World.block_lt_of_cell? w _ hw111_1)).trans hw111_1)⟩ (fun hHeld => ?_); clear hK K; refine norm_ (a' := ?_) ?_ ?_
               rotate_left
               ·show Act.put _ (some 39) _ = _
                simp only [Act.put, List.setIfInBounds_toArray, List.set_cons_zero, List.set_cons_succ, i64_w, i32_w]; rfl
               refine pure_ (i := 20) (N := some 40) (v := ?_) (a' := ?_) #[y_,y_,y_,y_,y_,y_,y_,y_,y_,y_,y_,y_,y_,y_,y_,y_,y_,y_,y_,y_,y_,n_] rfl rfl (any_of HT_.out (by kernel_rfl)) (fun _ _ _ h => h) (Or.inl ⟨by rfl, ?_⟩) ?_ ?_
               rotate_left
               ·intro w'; go_simp; with_reducible rfl
               rotate_left
               ·simp only [Act.put, List.setIfInBounds_toArray, List.set_cons_zero, List.set_cons_succ, i64_w, i32_w]; rfl
               refine pure_ (i := 21) (N := some 41) (v := ?_) (a' := ?_) #[y_,y_,y_,y_,y_,y_,y_,y_,y_,y_,y_,y_,y_,y_,y_,y_,y_,y_,y_,y_,y_,y_] rfl rfl (any_of HT_.out (by kernel_rfl)) (fun _ _ _ h => h) (Or.inl ⟨by rfl, ?_⟩) ?_ ?_
               rotate_left
               ·intro w'; go_simp; with_reducible rfl
               rotate_left
               ·simp only [Act.put, List.setIfInBounds_toArray, List.set_cons_zero, List.set_cons_succ, i64_w, i32_w]; rfl
               refine done_ (done_of HT_.out (by kernel_rfl)) ?_; have hcz43_0 : w42.cell? ⟨gb103, 0, none⟩ = some (.int .i64 ((rd_T35 l0 x15_1).f0)) := (blk_cell BK103.out 0).trans rfl; have hcz43_1 : w42.cell? ⟨gb103, 1, none⟩ = some (.int .i64 ((rd_T35 l0 x15_1).f1)) := (blk_cell BK103.out 1).trans rfl; have hfz43_0 := blk_frozen BK103.out 0; have hfz43_1 := blk_frozen BK103.out 1
               try go_wp2_with (first | ((with_reducible refine gate_builtin (b := .append) (xs := #[.tmp 42, .tmp 44]) rfl ?_); at_builtin; refine Kd.R_append k35 (w0 := w) w.heap.size rfl (.tmp 42) (.tmp 44) 25 35 (.agg #[(.int .i64 0), (.int .i64 0)]) 16 rfl Tryd.underlying25 info35 rfl (by decide) (by omega) u3 x3_1 (⟨(rd_T35 l0 x15_1).f0, (rd_T35 l0 x15_1).f1⟩ : S35) [.int .i64 ((rd_T35 l0 x15_1).f0), .int .i64 ((rd_T35 l0 x15_1).f1)] (fun k_ => k_ ≠ gb103) (fun _ => False) rfl rfl ?aP (fun _ hk => hk.elim) ?aF ?aO ?aB ?aS ?aL ?_; (case aP => exact k35_mkM _ _ _ (⟨(rd_T35 l0 x15_1).f0, (rd_T35 l0 x15_1).f1⟩ : S35)); (case aB => exact (bC1 HB GE103.out)); (case aF => exact (fun k_ hk => Kd.freshB (g := gb103) (o := .cells #[.int .i64 ((rd_T35 l0 x15_1).f0), .int .i64 ((rd_T35 l0 x15_1).f1)] 35 (0, 0)) (bA BK103) k_ hk)); (case aO => exact (bR HO_3)); (case aS => exact (below_size (bC1 HB GE103.out))); (case aL => have := LMc37.out; omega); intro v114 w44 ho hb hg hat; rw [← Ny113.out] at ho; have n0_ := Aside0.mk (blk_grown (g := gb103) (o := .cells #[.int .i64 ((rd_T35 l0 x15_1).f0), .int .i64 ((rd_T35 l0 x15_1).f1)] 35 (0, 0)) (bA BK103) hg (Kd.R_away HO_3.out (fun _ hk => hk))); have n1_ := Aside0.mk (hb); have n2_ := Aside0.mk (ho); clear BK103; clear HB; clear HO_3; have BK103 := n0_; have HB := n1_; have HO115 := n2_; clear n0_ n1_ n2_; clear ho hb hg hat))
               go_roundg k1
               case measure => have := HK1.out; omega
               case rel => exact ⟨(y113), (ji27), (by first | rfl | (simp; done) | (simp only [← hji27] <;> (first | rfl | simp)) | (simp [*]; done)), H', ⟨by have := HK1.out; omega⟩, ⟨by (with_reducible repeat (first | apply Kd.R_alloc | apply Kd.R_drewN | apply Kd.R_drew)); exact Kd.R_mono HO115.out (fun _ hk => trivial)⟩, ⟨(bC1 HB GE103.out)⟩⟩
              ·rw [if_neg c37] at H; exact absurd H (by simp)
            ·rw [if_neg c29] at H; exact absurd H (by simp)
           ·rw [if_neg c28] at H; exact absurd H (by simp)
          ·rw [if_neg c26] at H; exact absurd H (by simp)
         ·rw [if_neg c25] at H; exact absurd H (by simp)
      ·rw [if_neg c7] at H; exact absurd H (by simp)
     ·rw [if_neg c6] at H; exact absurd H (by simp)
    ·rw [if_neg c5] at H
     have c5b0 : decide (x15_1 < (l0.length : Int)) = false := decide_eq_false c5; clear c5; obtain rfl := Option.some.inj H; go_wp2; go_ret
     exact ⟨_, bE, by (with_reducible repeat (first | apply Kd.R_alloc | apply Kd.R_drewN | apply Kd.R_drew)); exact HO_3.out, (bC0 HB)⟩
 ·replace c3 := Bool.eq_false_iff.mpr c3
  subst c3
  have H1 : (some ([] : List (S35))) = some r := by rw [if_neg (show ¬ (false = true) by decide)] at H; exact H
  clear H; have H := H1; clear H1; obtain rfl := Option.some.inj H; go_enter Tryd.func22, Tryd.ntmps22; go_wp2_with (first | ((with_reducible refine gate_callee (f := 42) rfl ?_); refine goesL_ (some 8) rfl rfl Tryd.func42 (by kernel_rfl) rfl #[.slice A0 l0.length c0] rfl bM ?_; (with_reducible refine (impl_isPath.calls k _ _ l0 false _ ?side1 ?side2 A2.out).mono ?_); (case side1 => repeat (first | exact HR0.out | (with_reducible refine Kd.C_alloc ?_ _) | (with_reducible refine Kd.C_drewN ?_ _) | (with_reducible refine Kd.C_drew ?_))); (case side2 => exact HC0.out); rintro e w45 ⟨rfl, hb⟩; refine ⟨_, rfl, ?_⟩; have n0_ := Aside0.mk (below_step (bC0 HB) hb); clear HB; have HB := n0_; clear n0_; (try clear hb); (try clear hb2); (try clear hk); (try clear hi))); go_ret
  exact ⟨_, bE, by first | exact Kd.R_nil _ _ _ _ _ | exact Kd.N_nil _ _ _ _ _ | exact Kd.V_nil _ _ _ _ _ | exact Kd.Q_nil _ _ _ _ _ | exact Kd.S_nil _ _ _ _ _, (bC0 HB)⟩
set_option linter.unusedVariables false
set_option linter.unusedSimpArgs false
section
open Go.Conc Go.Proofs.YtdacpdhpifocbaaDoor.Ch
def wlines : Nat → List S35 → List UInt8
  | _, [] => []
  | i, p :: l => lineL i p.f0.toNat p.f1.toNat ++ wlines (i + 1) l
def smallPts (ts : List S35) : Bool := decide (ts.length ≤ 400) && ts.all fun p => decide (0 ≤ p.f0 ∧ p.f0 < 10 ∧ 0 ≤ p.f1 ∧ p.f1 < 10)
def impl_CodeWrite.f (k : Nat) (l0 : List S35) : Option ByteArray := (impl_CodeTurns.f k l0).bind fun ts => if smallPts ts = true then some ⟨(wlines 0 ts).toArray⟩ else none
theorem impl_CodeWrite.mono (a0 : List S35) (k : Nat) : LeO (impl_CodeWrite.f k a0) (impl_CodeWrite.f (k + 1) a0) := LeO.bind (impl_CodeTurns.mono _ _) (fun _ => LeO.refl _)
theorem mkcS (n : Nat) (hn : n ≤ 400) (w : World) : (Instr.makeChan 45 (.int .i64 n)).run Tryd.prog w = .ok (.chan (some w.heap.size)) (w.alloc (.chan n #[] false 0 0 false)) := by
  obtain ⟨i, hi, hb⟩ : ∃ i, Tryd.prog.info? 9 = some i ∧ i.bytes = 16 := by
    have h : (Tryd.prog.info? 9).map (·.bytes) = some 16 := by kernel_rfl
    obtain ⟨i, hi, hb⟩ := Option.map_eq_some_iff.1 h
    exact ⟨i, hi, hb⟩
  exact run_makeChan (P := Tryd.prog) (w := w) Tryd.underlying45 hi .i64 n (by omega) (by rw [hb]; omega)
def lv : Nat → List S35 → List Value
  | _, [] => []
  | i, p :: l => .string ⟨(lineL i p.f0.toNat p.f1.toNat).toArray⟩ :: lv (i + 1) l
theorem lv_len : ∀ (l : List S35) (i : Nat), (lv i l).length = l.length
  | [], _ => rfl
  | p :: l, i => by simp [lv, lv_len l]
theorem lv_snoc : ∀ (l : List S35) (i : Nat) (p : S35), lv i (l ++ [p]) = lv i l ++ [.string ⟨(lineL (i + l.length) p.f0.toNat p.f1.toNat).toArray⟩]
  | [], _, _ => rfl
  | q :: l, i, p => by simp only [List.cons_append, lv, lv_snoc l, List.length_cons]; rw [show i + 1 + l.length = i + (l.length + 1) by omega]
theorem take_snocP (l : List S35) (i : Nat) (h : i < l.length) : l.take (i + 1) = l.take i ++ [l.getD i z35] := by
  rw [List.take_succ_eq_append_getElem h, List.getD_eq_getElem?_getD, List.getElem?_eq_getElem h]; rfl
theorem small_at {ts : List S35} (h : smallPts ts = true) (i : Nat) (hi : i < ts.length) : ∃ x y : Nat, x < 10 ∧ y < 10 ∧ ts.getD i z35 = ⟨x, y⟩ := by
  simp only [smallPts, Bool.and_eq_true, List.all_eq_true, decide_eq_true_eq] at h
  have hm : ts.getD i z35 ∈ ts := by rw [List.getD_eq_getElem?_getD, List.getElem?_eq_getElem hi]; exact List.getElem_mem hi
  obtain ⟨h0, h1, h2, h3⟩ := h.2 _ hm
  refine ⟨(ts.getD i z35).f0.toNat, (ts.getD i z35).f1.toNat, by omega, by omega, ?_⟩
  generalize ts.getD i z35 = q at *
  cases q
  simp only [S35.mk.injEq] at *
  omega
theorem lv_drop : ∀ (l : List S35) (i j : Nat), j < l.length → lv (i + j) (l.drop j) = .string ⟨(lineL (i + j) (l.getD j z35).f0.toNat (l.getD j z35).f1.toNat).toArray⟩ :: lv (i + (j + 1)) (l.drop (j + 1)) := by
  intro l
  induction l with
  | nil => intro i j h; simp at h
  | cons p l ih =>
    intro i j h
    cases j with
    | zero => rfl
    | succ j =>
      have := ih (i + 1) j (by simpa using h)
      simp only [List.drop_succ_cons, List.getD_cons_succ]
      rw [show i + (j + 1) = i + 1 + j by omega, show i + (j + 1 + 1) = i + 1 + (j + 1) by omega]
      exact this
theorem wlines_snoc : ∀ (l : List S35) (i : Nat) (p : S35), wlines i (l ++ [p]) = wlines i l ++ lineL (i + l.length) p.f0.toNat p.f1.toNat
  | [], _, _ => by simp [wlines]
  | q :: l, i, p => by simp only [List.cons_append, wlines, wlines_snoc l, List.length_cons, List.append_assoc]; rw [show i + 1 + l.length = i + (l.length + 1) by omega]
theorem lineL_len (i x y : Nat) : (lineL i x y).length = 9 := rfl
theorem wlines_len : ∀ (l : List S35) (i : Nat), (wlines i l).length = 9 * l.length
  | [], _ => rfl
  | p :: l, i => by simp only [wlines, List.length_append, wlines_len l, List.length_cons, lineL_len]; omega
def chLeft (c : Nat) (w : World) : Nat := match w.heap[c]? with | some (.chan _ buf _ _ _ _) => buf.size | _ => 0
theorem chLeft_of {c n : Nat} {w : World} {buf : Array Value} {b t : Bool} {s r : Nat} (h : w.heap[c]? = some (.chan n buf b s r t)) : chLeft c w = buf.size := by unfold chLeft; rw [h]
theorem builder_kept {T e : TypeId} {B b : Nat} {bs : List Value} {w w' : World} (h : Lib.IsBuilder T e B b bs w) (hk : ∀ k, B ≤ k → w'.heap[k]? = w.heap[k]?) : Lib.IsBuilder T e B b bs w' := by
  have one : ∀ p, Lib.BuilderAt T e B b p bs w → Lib.BuilderAt T e B b p bs w' := by
    rintro p ⟨hB, v, hb, ho, hn⟩
    refine ⟨hB, v, (hk b hB).trans hb, own_move ho (fun k hk' => hk k (ho.lt k hk').1), hn⟩
  exact h.imp (one _) (one _)
set_option maxHeartbeats 4000000 in
set_option maxRecDepth 100000 in
theorem impl_CodeWrite.calls (k : Nat) (A0 : Option Addr) (c0 : Nat) (l0 : List (S35)) (r : ByteArray) (w : World) (hr0 : Kd.C k35 w A0 l0.length l0) (hc0 : l0.length ≤ c0) (h : impl_CodeWrite.f k l0 = some r) :
  Calls Tryd.prog 13 #[.slice A0 l0.length c0] w fun e w' => e = .returned (.string r) ∧ Below w.heap.size w w' := by
 obtain ⟨ts, ht, h⟩ := Option.bind_eq_some_iff.mp h
 have hsm : smallPts ts = true := by
  by_cases h1 : smallPts ts = true
  ·exact h1
  ·rw [if_neg h1] at h; cases h
 rw [if_pos hsm] at h; obtain rfl := Option.some.inj h; clear h
 have hlen : ts.length ≤ 400 := by simp [smallPts] at hsm; exact hsm.1
 have HS := Lib.hid hsm; clear hsm; have HT := Lib.hid ht; clear ht; go_enter Tryd.func13, Tryd.ntmps13; have HH := Lib.hid h; clear h; have hmc := mkcS ts.length hlen; go_wp2_with (go_at_call 22; refine (impl_CodeTurns.calls k A0 c0 l0 ts _ hr0 hc0 HT.out).mono ?_; clear hr0 hc0; rintro e w1 ⟨v, rfl, hR, hb⟩; obtain ⟨At, ct, rfl⟩ := Kd.R_slice hR; have HC := Lib.hid (Kd.R_reads' hR).2.2; clear hR; have hsz := hb.size; have HB := Lib.hid hb; clear hb); go_loopw [5, 6, 16, 17, 18, 19, 20, 21, 22, 23, 24, 25] (fun v5 v6 v16 v17 v18 v19 v20 v21 v22 v23 v24 v25 w' => ∃ i : Nat, i ≤ ts.length ∧ v16 = .int .i64 i ∧ Hid (Below w1.heap.size w1 w') ∧ Hid (w1.heap.size < w'.heap.size) ∧ Hid (w'.heap[w1.heap.size]? = some (.chan ts.length (lv 0 (ts.take i)).toArray false i 0 false))) (fun _ _ v16 _ _ _ _ _ _ _ _ _ _ => ts.length - (intOf v16).toNat)
 case atStart =>
  refine ⟨0, Nat.zero_le _, rfl, ?_, ?_, ?_⟩
  ·exact (Below.refl _ w1).alloc (Nat.le_refl _) _
  ·show _ < _; simp
  ·exact (heap_alloc_new w1 _)
 case round =>
  obtain ⟨i, hi, rfl, HB1, HL, HCh⟩ := hrel
  by_cases hlt : i < ts.length
  ·obtain ⟨x, y, hx, hy, hxy⟩ := small_at HS.out i hlt
   obtain ⟨ad, rfl, hc0, hc1⟩ := at_T35 (Kd.C_below HC.out HB1.out) i (by omega) (by omega); rw [show rd_T35 ts (i : Int) = ⟨x, y⟩ from hxy, Int.toNat_natCast] at hc0 hc1; have Hxy := Lib.hid hxy; clear hxy; go_upto_region 6 with (fail); refine OpsTo.region ?_
   show OpsTo _ _ [0, 1, 2, 3, 4] _ _ _
   refine OpsTo.op rfl rfl (fun K hK => ?_); go_simp; refine hK _ _ ?_; clear hK K; refine OpsTo.op rfl rfl (fun K hK => ?_); go_simp; refine hK _ _ ?_; clear hK K; refine OpsTo.op rfl rfl (fun K hK => ?_); go_simp; refine hK _ _ ?_; clear hK K; refine OpsTo.call (f := 31) (args := #[.int .i64 i, .agg #[.int .i64 x, .int .i64 y]]) (w' := wr.alloc (Obj.cells #[Value.int IntKind.i64 ↑x, Value.int IntKind.i64 ↑y] 35)) rfl rfl ?_ (codeLine i x y (by omega) hx hy _) ?_
   ·go_simp
   rintro e w2 ⟨rfl, hb2⟩; refine ⟨_, rfl, ?_⟩; have hlt1 : w1.heap.size < wr.heap.size := HL.out
   have hch : w2.heap[w1.heap.size]? = some (.chan ts.length (lv 0 (ts.take i)).toArray false i 0 false) := by
    rw [hb2.block _ (by rw [World.size_alloc]; omega), Lib.alloc_old wr _ _ hlt1]; exact HCh.out
   have hs2 : wr.heap.size + 1 ≤ w2.heap.size := by have := hb2.size; rw [World.size_alloc] at this; exact this
   refine OpsTo.send (z := .tuple #[]) (c := w1.heap.size) (v := .string ⟨(lineL i x y).toArray⟩) rfl rfl (by go_simp; rfl) hch (by simp [lv_len]; omega) ?_
   have hb3 : Below w1.heap.size w1 (w2.setChan w1.heap.size ts.length ((lv 0 (ts.take i)).toArray.push (Value.string ⟨(lineL i x y).toArray⟩)) false (i + 1) 0 false) :=
    below_setChan ((HB1.out.alloc (by omega) _).trans (hb2.mono (by rw [World.size_alloc]; omega))) (Nat.le_refl _) _ _ _ _ _ _
   have hh3 := heap_setChan w2 w1.heap.size ts.length ((lv 0 (ts.take i)).toArray.push (Value.string ⟨(lineL i x y).toArray⟩)) false (i + 1) 0 false (by omega); have hs3 := size_setChan w2 w1.heap.size ts.length ((lv 0 (ts.take i)).toArray.push (Value.string ⟨(lineL i x y).toArray⟩)) false (i + 1) 0 false
   rw [show (lv 0 (ts.take i)).toArray.push (Value.string ⟨(lineL i x y).toArray⟩) = (lv 0 (ts.take (i + 1))).toArray by
    rw [take_snocP ts i hlt, lv_snoc, Hxy.out, List.length_take, Nat.min_eq_left hi, Nat.zero_add]; simp] at hb3 hh3 hs3 ⊢
   generalize w2.setChan w1.heap.size ts.length (lv 0 (ts.take (i + 1))).toArray false (i + 1) 0 false = w3 at hb3 hh3 hs3 ⊢; have HB3 := Lib.hid hb3; clear hb3; have HH3 := Lib.hid hh3; clear hh3
   have HS3 : Hid (w1.heap.size < w3.heap.size) := by show _ < _; omega
   clear hs3 hs2 hch hb2 hc0 hc1 hlt1 HCh HL HB1; refine OpsTo.nil ?_; go_simp; go_wp2; go_roundw
   case rel => exact ⟨i + 1, by omega, by go_num, HB3, HS3, HH3⟩
   case measure => simp [intOf]; omega
  ·obtain rfl : i = ts.length := by omega
   rw [List.take_length] at HCh; obtain ⟨wc, hwc⟩ : ∃ wc, wc = wr.setChan w1.heap.size ts.length (lv 0 ts).toArray true ts.length 0 false := ⟨_, rfl⟩
   have hcl : ∀ ats ty, (Builtin.close_ ats ty #[.chan (some w1.heap.size)]).run Tryd.prog wr = .ok (.tuple #[]) wc := fun ats ty => by
    rw [hwc]; exact run_close_open (P := Tryd.prog) (w := wr) ats ty HCh.out
   have HBc : Hid (Below w1.heap.size w1 wc) := by rw [hwc]; exact below_setChan HB1.out (Nat.le_refl _) _ _ _ _ _ _
   have HLc : Hid (w1.heap.size < wc.heap.size) := by rw [hwc]; show _ < _; rw [size_setChan]; exact HL.out
   have HCc : Hid (wc.heap[w1.heap.size]? = some (.chan ts.length (lv 0 ts).toArray true ts.length 0 false)) := by rw [hwc]; exact heap_setChan _ _ _ _ _ _ _ _ HL.out
   have Hcl := Lib.hid hcl
   have hws : wr.heap.size = wc.heap.size := by rw [hwc, size_setChan]
   have HWS := Lib.hid hws; clear hwc hlt hi HCh HL HB1; clear hws; go_upto_region 10 with (fail); clear hcl Hcl HWS; have Hbf : Hid (Lib.IsBuilder 49 5 wc.heap.size wc.heap.size (Lib.byteCells (wlines 0 (ts.take 0))) (wc.alloc (.cells #[.pointer none, .slice none 0 0] 49))) := Lib.fresh_isBuilder 49 5 wc; have hb4 : Below w1.heap.size w1 (wc.alloc (.cells #[.pointer none, .slice none 0 0] 49)) := HBc.out.alloc (Nat.le_of_lt HLc.out) _; have hc4 : (wc.alloc (.cells #[.pointer none, .slice none 0 0] 49)).heap[w1.heap.size]? = some (.chan ts.length (lv (0 + 0) (ts.drop 0)).toArray true ts.length 0 false) := (Lib.alloc_old wc _ _ HLc.out).trans HCc.out
   have hs4 : wc.heap.size < (wc.alloc (.cells #[.pointer none, .slice none 0 0] 49)).heap.size := by rw [World.size_alloc]; omega
   generalize wc.alloc (.cells #[.pointer none, .slice none 0 0] 49) = w4 at Hbf hb4 hc4 hs4 ⊢; have HB4 := Lib.hid hb4; have HC4 := Lib.hid hc4; have HS4 := Lib.hid hs4; clear hb4 hc4 hs4; go_wp2; go_loopw [8, 28, 29, 30, 31, 32] (fun v8 v28 v29 v30 v31 v32 w' => ∃ j : Nat, j ≤ ts.length ∧ Hid (Below w1.heap.size w1 w') ∧ Hid (wc.heap.size < w'.heap.size) ∧ Hid (w'.heap[w1.heap.size]? = some (.chan ts.length (lv (0 + j) (ts.drop j)).toArray true ts.length j false)) ∧ Hid (Lib.IsBuilder 49 5 wc.heap.size wc.heap.size (Lib.byteCells (wlines 0 (ts.take j))) w')) (fun _ _ _ _ _ _ w' => chLeft w1.heap.size w')
   case atStart => exact ⟨0, Nat.zero_le _, HB4, HS4, HC4, Hbf⟩
   case round =>
    obtain ⟨j, hj, HB5, HS5, HC5, HI5⟩ := hrel
    by_cases hjl : j < ts.length
    ·obtain ⟨x, y, hx, hy, hxy⟩ := small_at HS.out j hjl
     have hc := HC5.out; rw [lv_drop ts 0 j hjl, hxy] at hc; simp only [Nat.zero_add, Int.toNat_natCast] at hc
     have hmeas : chLeft w1.heap.size wr = ts.length - j := by rw [chLeft_of HC5.out]; simp [lv_len]
     have Hm := Lib.hid hmeas; clear hmeas; clear HC5; have HX := Lib.hid hxy; clear hxy; have HC6 := Lib.hid hc; clear hc; go_upto_region 11 with (fail); refine OpsTo.region ?_
     show OpsTo _ _ [0, 1] _ _ _
     refine OpsTo.recv (ok := true) (z := .string ⟨#[]⟩) (c := w1.heap.size) rfl rfl (by simp [go_sem, rcase]) HC6.out (by simp) ?_; have hb6 : Below w1.heap.size w1 (wr.setChan w1.heap.size ts.length (lv (j + 1) (ts.drop (j + 1))).toArray true ts.length (j + 1) false) := below_setChan HB5.out (Nat.le_refl _) _ _ _ _ _ _; have hc6 := heap_setChan wr w1.heap.size ts.length (lv (j + 1) (ts.drop (j + 1))).toArray true ts.length (j + 1) false (Nat.lt_trans HLc.out HS5.out); have hs6 := size_setChan wr w1.heap.size ts.length (lv (j + 1) (ts.drop (j + 1))).toArray true ts.length (j + 1) false
     have hi6 : Lib.IsBuilder 49 5 wc.heap.size wc.heap.size (Lib.byteCells (wlines 0 (ts.take j))) (wr.setChan w1.heap.size ts.length (lv (j + 1) (ts.drop (j + 1))).toArray true ts.length (j + 1) false) :=
      builder_kept HI5.out (fun k hk => by simp only [World.setChan]; rw [Array.getElem?_setIfInBounds_ne (by have := HLc.out; omega)])
     rw [show (Value.string ⟨(lineL j x y).toArray⟩ :: lv (j + 1) (ts.drop (j + 1))).toArray.extract 1 (Value.string ⟨(lineL j x y).toArray⟩ :: lv (j + 1) (ts.drop (j + 1))).toArray.size = (lv (j + 1) (ts.drop (j + 1))).toArray by simp]; generalize wr.setChan w1.heap.size ts.length (lv (j + 1) (ts.drop (j + 1))).toArray true ts.length (j + 1) false = w6 at hb6 hc6 hs6 hi6 ⊢; refine OpsTo.op rfl rfl (fun K hK => ?_); simp only [got]; go_simp; refine hK _ _ ?_; clear hK K; refine OpsTo.nil ?_
     have hs7 : wc.heap.size < w6.heap.size := by rw [hs6]; exact HS5.out
     have hl6 : (Lib.byteCells (wlines 0 (ts.take j))).length + (⟨(lineL j x y).toArray⟩ : ByteArray).size ≤ 140737488355328 := by
      rw [Lib.byteCells_length, wlines_len, List.length_take]
      show _ + 9 ≤ _
      omega
     have HI6 := Lib.hid hi6; have HB6 := Lib.hid hb6; have HC7 := Lib.hid hc6; have HS7 := Lib.hid hs7; have HL6 := Lib.hid hl6; clear hb6 hc6 hs6 hi6 hs7 hl6; go_wp2_with (go_at_call 32; refine (writeString _ _ _ _ _ HI6.out HL6.out (Nat.le_of_lt HS7.out)).mono ?_; rintro e w8 ⟨rfl, h8, hb8⟩); have HB8 : Hid (Below w1.heap.size w1 w8) := HB6.out.trans (hb8.mono (Nat.le_of_lt HLc.out)); have HS8 : Hid (wc.heap.size < w8.heap.size) := Nat.lt_of_lt_of_le HS7.out hb8.size
     have HC8 : Hid (w8.heap[w1.heap.size]? = some (.chan ts.length (lv (0 + (j + 1)) (ts.drop (j + 1))).toArray true ts.length (j + 1) false)) := by
      show _ = _
      rw [hb8.block _ HLc.out, Nat.zero_add]; exact HC7.out
     have HI8 : Hid (Lib.IsBuilder 49 5 wc.heap.size wc.heap.size (Lib.byteCells (wlines 0 (ts.take (j + 1)))) w8) := by
      rw [take_snocP ts j hjl, wlines_snoc, HX.out, List.length_take, Nat.min_eq_left hj, Nat.zero_add]
      have := h8
      rw [Lib.strCells_eq] at this; unfold Lib.byteCells at this ⊢; rw [List.map_append]
      exact .inr this
     clear h8 hb8; go_roundw
     case rel => exact ⟨j + 1, by omega, HB8, HS8, HC8, HI8⟩
     case measure => rw [chLeft_of HC8.out, Hm.out]; simp [lv_len]; omega
    ·obtain rfl : j = ts.length := by omega
     have hc := HC5.out; rw [List.drop_length] at hc; have HC6 := Lib.hid hc; clear hc HC5; go_upto_region 11 with (fail); refine OpsTo.region ?_
     show OpsTo _ _ [0, 1] _ _ _
     refine OpsTo.recvShut (ok := true) (z := .string ⟨#[]⟩) (c := w1.heap.size) rfl rfl (by simp [go_sem, rcase]) HC6.out ?_; refine OpsTo.op rfl rfl (fun K hK => ?_); simp only [got]; go_simp; refine hK _ _ ?_; clear hK K; refine OpsTo.nil ?_; go_wp2_with (go_at_call 33; refine (Tryd.Builder_String_any _ _ _ _ HI5.out (Nat.le_of_lt HS5.out)).mono ?_; rintro e w8 ⟨rfl, hb8⟩); go_ret; refine ⟨?_, HB.out.trans ((HB5.out.trans (hb8.mono (Nat.le_of_lt HLc.out))).mono hsz)⟩; rfl
end
set_option linter.unusedVariables false
set_option linter.unusedSimpArgs false
attribute [local go_sem high] eqA35
def laws_luSame.l0 : Nat → List (S35) → List (S35) → Int → Option (Bool)
  | 0, _, _, _ => none
  | k + 1, x0, x1, x5 => if x5 < (x0.length : Int) then (if 0 ≤ x5 then (if x5 < (x1.length : Int) then (if (!(((rd_T35 x0 x5).f0) == ((rd_T35 x1 x5).f0)) || (!(((rd_T35 x0 x5).f1) == ((rd_T35 x1 x5).f1)))) = true then (some false) else (laws_luSame.l0 k x0 x1 (wrap64 (x5 + 1)))) else (none)) else (none)) else (some true)
def laws_luSame.f (k : Nat) (l0 : List (S35)) (l1 : List (S35)) : Option (Bool) := if (l0.length : Int) = (l1.length : Int) then (laws_luSame.l0 k l0 l1 0) else (some false)
theorem laws_luSame.mono_l : ∀ k, (∀ y0 y1 y2, LeO (laws_luSame.l0 k y0 y1 y2) (laws_luSame.l0 (k + 1) y0 y1 y2))
  | 0 => fun _ _ _ r h => by simp [laws_luSame.l0] at h
  | k + 1 => by
    have ih0 := laws_luSame.mono_l k
    · intro y0 y1 y2
      unfold laws_luSame.l0
      repeat' first
      | (with_reducible exact ih0 _ _ _)
      | (with_reducible exact LeO.refl _)
      | (with_reducible exact LeO.none _)
      | (with_reducible refine LeO.ite ?_ ?_)
      | (with_reducible refine LeO.bind ?_ (fun _ => ?_))
      | exact ih0 _ _ _
      | exact LeO.none _
      | refine LeO.ite ?_ ?_
      | refine LeO.bind ?_ (fun _ => ?_)
theorem laws_luSame.mono : ∀ a0 a1 k, LeO (laws_luSame.f k a0 a1) (laws_luSame.f (k + 1) a0 a1) := by
  intro a0 a1 k
  have ih0 := laws_luSame.mono_l k
  unfold laws_luSame.f
  repeat' first
      | (with_reducible exact ih0 _ _ _)
      | (with_reducible exact LeO.refl _)
      | (with_reducible exact LeO.none _)
      | (with_reducible refine LeO.ite ?_ ?_)
      | (with_reducible refine LeO.bind ?_ (fun _ => ?_))
      | exact ih0 _ _ _
      | exact LeO.none _
      | refine LeO.ite ?_ ?_
      | refine LeO.bind ?_ (fun _ => ?_)
set_option maxHeartbeats 8000000 in
set_option maxRecDepth 100000 in
theorem laws_luSame.calls (k : Nat) (A0 : Option Addr) (c0 : Nat) (l0 : List (S35)) (A1 : Option Addr) (c1 : Nat) (l1 : List (S35)) (r : Bool) (w : World) (hr0 : Kd.C k35 w A0 l0.length l0) (hc0 : l0.length ≤ c0) (hr1 : Kd.C k35 w A1 l1.length l1) (hc1 : l1.length ≤ c1) (h : laws_luSame.f k l0 l1 = some r) :
  Calls Tryd.prog 17 #[.slice A0 l0.length c0, .slice A1 l1.length c1] w fun e w' => e = .returned (.bool r) ∧ Drawn0 w w' := by
 have hu35 := Tryd.underlying35; have HR0 := Aside0.mk hr0; have HC0 := Aside0.mk hc0; clear hr0 hc0; have HR1 := Aside0.mk hr1; have HC1 := Aside0.mk hc1; clear hr1 hc1; have H : (if (l0.length : Int) = (l1.length : Int) then (laws_luSame.l0 k l0 l1 0) else (some false)) = some r := h; clear h
 by_cases c3 : (l0.length : Int) = (l1.length : Int)
 ·rw [if_pos c3] at H
  have c3b0 : ((l0.length : Int) == (l1.length : Int)) = true := beq_iff_eq.mpr c3; have c3b1 : ((l0.length : Int) != (l1.length : Int)) = false := bne_eq_false_iff_eq.mpr c3
  have c3b2 : (l0.length == l1.length) = true := by first | simpa using c3 | (simp at c3 ⊢; omega)
  clear c3; have H' := Aside0.mk H; clear H; go_enter Tryd.func17, Tryd.ntmps17; go_wp2
  repeat (go_quiet (fail); try go_wp2)
  go_loopg [5] k (fun kq v5 w' => ∃ (x5_1 : Int), v5 = .int .i64 x5_1 ∧ Aside0 (laws_luSame.l0 kq l0 l1 x5_1 = some r) ∧ Aside0 (kq ≤ k) ∧ Drawn0 w w')
  case atStart => exact ⟨(0), (by first | rfl | (simp; done) | (simp [*]; done)), H', ⟨Nat.le_refl _⟩, (by repeat (first | exact Drawn0.refl _ | apply Drawn0.step))⟩
  case round =>
   clear H'
   try clear c1
   try clear p2
   try clear c3
   try clear c3b0
   try clear c3b1
   try clear c3b2
   obtain ⟨x5_1, rfl, HA, HK1, ⟨m1, rfl⟩⟩ := hrel
   cases gk with
   | zero => exact absurd HA.out (by simp [laws_luSame.l0])
   | succ k1 =>
    have H := HA.out; clear HA; simp only [laws_luSame.l0] at H
    by_cases c4 : x5_1 < (l0.length : Int)
    ·rw [if_pos c4] at H
     have c4b0 : decide (x5_1 < (l0.length : Int)) = true := decide_eq_true c4; clear c4
     by_cases c5 : 0 ≤ x5_1
     ·rw [if_pos c5] at H
      have c5b0 : decide (0 ≤ x5_1) = true := decide_eq_true c5; clear c5
      by_cases c6 : x5_1 < (l1.length : Int)
      ·rw [if_pos c6] at H
       have c6b0 : decide (x5_1 < (l1.length : Int)) = true := decide_eq_true c6; clear c6
       by_cases c7 : (!(((rd_T35 l0 x5_1).f0) == ((rd_T35 l1 x5_1).f0)) || (!(((rd_T35 l0 x5_1).f1) == ((rd_T35 l1 x5_1).f1)))) = true
       ·rw [if_pos c7] at H
        have c7b0 : (!(((rd_T35 l0 x5_1).f0) == ((rd_T35 l1 x5_1).f0)) || (!(((rd_T35 l0 x5_1).f1) == ((rd_T35 l1 x5_1).f1)))) = true := c7; clear c7; obtain rfl := Option.some.inj H; have p101 : 0 ≤ (x5_1 : Int) := of_decide_eq_true bX; have q101 : x5_1 < (l0.length : Int) := of_decide_eq_true bX; obtain ⟨ad101, e101, hx101_0, hx101_1⟩ := at_T35 HR0.out x5_1 p101 q101
        cases e101
        replace p101 := eq_true p101; replace q101 := eq_true q101; have p102 : 0 ≤ (x5_1 : Int) := of_decide_eq_true bX; have q102 : x5_1 < (l1.length : Int) := of_decide_eq_true bX; obtain ⟨ad102, e102, hx102_0, hx102_1⟩ := at_T35 HR1.out x5_1 p102 q102
        cases e102
        replace p102 := eq_true p102; replace q102 := eq_true q102; go_wp2
        repeat (go_quiet (fail); try go_wp2)
        go_ret
        exact ⟨by first | rfl | (simp; done) | (simp [*]; done), (by repeat (first | exact Drawn0.refl _ | apply Drawn0.step))⟩
       ·rw [if_neg c7] at H
        have c7b0 : (!(((rd_T35 l0 x5_1).f0) == ((rd_T35 l1 x5_1).f0)) || (!(((rd_T35 l0 x5_1).f1) == ((rd_T35 l1 x5_1).f1)))) = false := by simpa using c7
        clear c7; have H' := Aside0.mk H; clear H; have p101 : 0 ≤ (x5_1 : Int) := of_decide_eq_true bX; have q101 : x5_1 < (l0.length : Int) := of_decide_eq_true bX; obtain ⟨ad101, e101, hx101_0, hx101_1⟩ := at_T35 HR0.out x5_1 p101 q101
        cases e101
        replace p101 := eq_true p101; replace q101 := eq_true q101; have p102 : 0 ≤ (x5_1 : Int) := of_decide_eq_true bX; have q102 : x5_1 < (l1.length : Int) := of_decide_eq_true bX; obtain ⟨ad102, e102, hx102_0, hx102_1⟩ := at_T35 HR1.out x5_1 p102 q102
        cases e102
        replace p102 := eq_true p102; replace q102 := eq_true q102; go_wp2
        repeat (go_quiet (fail); try go_wp2)
        go_roundg k1
        case measure => have := HK1.out; omega
        case rel => exact ⟨(wrap64 (x5_1 + 1)), (by first | rfl | (simp; done) | (simp [*]; done)), H', ⟨by have := HK1.out; omega⟩, (by repeat (first | exact Drawn0.refl _ | apply Drawn0.step))⟩
      ·rw [if_neg c6] at H; exact absurd H (by simp)
     ·rw [if_neg c5] at H; exact absurd H (by simp)
    ·rw [if_neg c4] at H
     have c4b0 : decide (x5_1 < (l0.length : Int)) = false := decide_eq_false c4; clear c4; obtain rfl := Option.some.inj H; go_wp2
     repeat (go_quiet (fail); try go_wp2)
     go_ret
     exact ⟨by first | rfl | (simp; done) | (simp [*]; done), (by repeat (first | exact Drawn0.refl _ | apply Drawn0.step))⟩
 ·rw [if_neg c3] at H
  have c3b0 : ((l0.length : Int) == (l1.length : Int)) = false := beq_eq_false_iff_ne.mpr c3; have c3b1 : ((l0.length : Int) != (l1.length : Int)) = true := bne_iff_ne.mpr c3
  have c3b2 : (l0.length == l1.length) = false := by first | simpa using c3 | (simp at c3 ⊢; omega)
  obtain rfl := Option.some.inj H; go_enter Tryd.func17, Tryd.ntmps17; go_wp2
  repeat (go_quiet (fail); try go_wp2)
  go_ret
  exact ⟨by first | rfl | (simp; done) | (simp [*]; done), (by repeat (first | exact Drawn0.refl _ | apply Drawn0.step))⟩
set_option linter.unusedVariables false
set_option linter.unusedSimpArgs false
def impl_toward.f (a0 : Int) (a1 : Int) : Option (Int) := if a0 < a1 then (some 1) else (if a0 > a1 then (some (-1)) else (some 0))
set_option maxHeartbeats 8000000 in
set_option maxRecDepth 100000 in
theorem impl_toward.calls (a0 : Int) (a1 : Int) (r : Int) (w : World) (h : impl_toward.f a0 a1 = some r) :
    Calls Tryd.prog 41 #[.int .i64 a0, .int .i64 a1] w fun e w' => e = .returned (.int .i64 r) ∧ Drawn0 w w' := by
  have H : (if a0 < a1 then (some 1) else (if a0 > a1 then (some (-1)) else (some 0))) = some r := h
  clear h
  by_cases c3 : a0 < a1
  · rw [if_pos c3] at H
    have c3b0 : decide (a0 < a1) = true := decide_eq_true c3
    clear c3
    obtain rfl := Option.some.inj H
    go_enter Tryd.func41, Tryd.ntmps41
    go_wp2
    go_ret
    exact ⟨by first | rfl | (simp; done) | (simp [*]; done), (by repeat (first | exact Drawn0.refl _ | apply Drawn0.step))⟩
  · rw [if_neg c3] at H
    have c3b0 : decide (a0 < a1) = false := decide_eq_false c3
    clear c3
    by_cases c4 : a0 > a1
    · rw [if_pos c4] at H
      have c4b0 : decide (a1 < a0) = true := decide_eq_true c4
      clear c4
      obtain rfl := Option.some.inj H
      go_enter Tryd.func41, Tryd.ntmps41
      go_wp2
      go_ret
      exact ⟨by first | rfl | (simp; done) | (simp [*]; done), (by repeat (first | exact Drawn0.refl _ | apply Drawn0.step))⟩
    · rw [if_neg c4] at H
      have c4b0 : decide (a1 < a0) = false := decide_eq_false c4
      clear c4
      obtain rfl := Option.some.inj H
      go_enter Tryd.func41, Tryd.ntmps41
      go_wp2
      go_ret
      exact ⟨by first | rfl | (simp; done) | (simp [*]; done), (by repeat (first | exact Drawn0.refl _ | apply Drawn0.step))⟩
end Go.Proofs.YtdacpdhpifocbaaDoor.P
