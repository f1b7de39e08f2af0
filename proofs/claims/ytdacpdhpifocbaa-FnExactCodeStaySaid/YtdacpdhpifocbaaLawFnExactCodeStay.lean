/- Proved: laws.FnExactCodeStay returns true for every slice of points, whatever it holds, and leaves it as it was. Condition: none but the row's own form (what comes in can be read and takes at most 2^47 - 4096 bytes). -/
import Derived.Test.YtdacpdhpifocbaaRows
import Derived.Test.YtdacpdhpifocbaaPureFnExactCodeStay
import Derived.Test.YtdacpdhpifocbaaOpen
import Derived.WalkKit
import Derived.ProofKit
import Derived.OpenShut
import Derived.ChangeOld
import Derived.Below
import Derived.SizedLaws
namespace Go.Proofs.Ytdacpdhpifocbaa.fnExactCodeStay
open Go.ChangeShapes Go.WideShapes Go.ChangeAt Go.RowKit
set_option linter.unusedVariables false
theorem own : ownKnob Try.prog.godebug = none := by kernel_rfl
theorem laidOut : laidOutB Try.prog = true := by kernel_rfl
set_option maxRecDepth 100000 in
theorem lifted (os : Os) (started : os.Started) (H : Type) (enc : TypeId × Value → H) :
    ReturnsInHanded {} Try.checked os 4 .any (Rows.fnExactCodeStaySpec.pre6 enc Try.prog Try.f4 Rows.fnExactCodeStayRow.domain false) (Rows.fnExactCodeStaySpec.post enc Try.prog Try.f4 false true false false) := by
  refine returnsInHanded_of_change_sized (C := Try.checked) own started (by kernel_rfl) Try.func4
    (ChangeSpec.witness6 (enc := enc) (C := Try.checked) false ⟨#[], #[.slice none 0 0], []⟩ 8 (by kernel_rfl) (by kernel_rfl) (by kernel_rfl) (by kernel_rfl)) ?_
  intro W base args ds gs before hval0 hW hcnd hsz0 _
  have hsz : (DataW.weightsEach Try.prog (Try.f4.params.toList ++ Rows.fnExactCodeStaySpec.plain.varTypes Try.prog) (ds ++ gs)).all (· ≤ reachBytes) = true := hsz0
  have hval : ∀ (j : Nat) t v, Try.f4.params[j]? = some t → args[j]? = some v → Value.okWide Try.prog W .any base t v := hval0
  have hW' := hW
  obtain ⟨p, q, hA0, hV, rfl, hfz, hnd⟩ := hW
  have hA : DataW.TrodAll enc Try.prog W 0 (fun _ => true) true Try.f4.params.toList args.toList ds p := hA0
  rw [Try.params4] at hA hval hsz
  obtain ⟨v0, vs0, d0, ds0, p0, q0, hargs, rfl, rfl, h0, r0⟩ := trodAll_cons hA
  obtain ⟨rfl, rfl, rfl⟩ := trodAll_nil r0
  obtain rfl : args = #[v0] := by cases args; simp_all
  obtain ⟨rfl, rfl⟩ := trodVars_none hV
  obtain ⟨a0, len0, cap0, rfl⟩ := okWide_slice Try.underlying22 (hval 0 22 v0 rfl rfl)
  have k0 := h0
  have lt0 : ∀ x ∈ p0, x.block < W.heap.size := by obtain ⟨m, hm⟩ := k0; exact DataW.trod_lt m _ _ _ hm
  obtain ⟨l, rfl, hC, hcap, hd⟩ := Open.open_pts h0
  have y0 : l.length * 16 ≤ 140737488351232 := by
    rcases hd with ⟨_, e⟩ | ⟨elems, spare, e, he⟩
    · omega
    · have z := sized_slice hsz (j := 0) (t := 22) (elems := elems) (spare := spare) rfl (by rw [e]; rfl) Try.underlying22
      rw [show Try.prog.bytesOf 42 = 16 by kernel_rfl, show reachBytes = 140737488351232 by kernel_rfl] at z
      omega
  clear hA0 hval0 hsz0 hsz
  obtain ⟨k, hk⟩ := Q.exactCodeStay l y0
  refine (P.laws_FnExactCodeStay.calls k a0 cap0 l true W hC hcap hk).mono ?_
  rintro e W' ⟨rfl, bel⟩
  exact ⟨_, rfl, _, _, _, [], _, [], hW', trodAll_mk1 (shut_bool Try.underlying4 _), (trodAll_cons_mk (Below.trod laidOut (by kernel_rfl) (of_decide_eq_true (by kernel_rfl)) k0 bel lt0) trodAll_mk0), rfl, bel.frame _, fun h => by cases h⟩
theorem proved : Rows.FnExactCodeStaySaid :=
  OpenClaim.holds_of_wide 4 Try.f4 rfl rfl rfl rfl rfl rfl rfl ⟨rfl, rfl, rfl, rfl, rfl⟩ rfl rfl rfl rfl rfl (by kernel_rfl) Try.func4 (by kernel_rfl)
    (of_decide_eq_true (by kernel_rfl)) (by unfold Func.isWrapper; first | (rw [if_pos (by decide +kernel)]; kernel_rfl) | (rw [if_neg (by decide +kernel)]; exact ⟨rfl, rfl⟩))
    (fun os started H enc _ => lifted os started H enc)
end Go.Proofs.Ytdacpdhpifocbaa.fnExactCodeStay
namespace Go.Proofs.Ytdacpdhpifocbaa
theorem fnExactCodeStay_holds : Rows.FnExactCodeStaySaid := fnExactCodeStay.proved
#print axioms fnExactCodeStay_holds
end Go.Proofs.Ytdacpdhpifocbaa
