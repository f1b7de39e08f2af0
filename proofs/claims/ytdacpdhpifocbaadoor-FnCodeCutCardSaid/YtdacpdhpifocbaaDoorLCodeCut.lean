/- Proved: THE TIED CARD of laws.FnCodeCut: the row's own listed variables are what the program's text lays. -/
import Derived.Test.YtdacpdhpifocbaaDoorCards
import Derived.Test.YtdacpdhpifocbaaDoorTie
import Derived.SevenTiedAt
import Derived.Test.YtdacpdhpifocbaaDoorBCodeCut5
namespace Go.Proofs.YtdacpdhpifocbaaDoor
open Go
theorem fnCodeCutCard_holds : Rows.FnCodeCutCardSaid :=
  Claim7.holds_tied_plain_at .later [] [.data, .data, .data, .data, .pinned] true (true, "0b9101586ae29fe4c1c85b4d6fcdc0b3c59a12e38a0885b21a12a8211c02b38e") false
    fnCodeCut.proved (fun _ h => by cases h) (by kernel_rfl) (fun _ h => by cases h) fnCodeCut_row_tie rfl ⟨rfl, rfl⟩ (by kernel_rfl) rfl
    (fun f fn hf hfn => by
      obtain rfl : f = 6 := Option.some.inj ((show Tryd.prog.funcNamed "loop.example/mortiser/laws.FnCodeCut" = some 6 by kernel_rfl).symm.trans hf) |>.symm
      obtain rfl : fn = Tryd.f6 := (Option.some.inj (Tryd.func6.symm.trans hfn)).symm
      exact ⟨by kernel_rfl, fun j t ht => by
        have hm : t ∈ Tryd.f6.params.toList := Array.mem_toList_iff.2 (Array.mem_of_getElem? ht)
        have hall : (Tryd.f6.params.toList.all fun u => !Tryd.prog.wantsStandIn u) = true := by kernel_rfl
        exact (show Tryd.prog.wantsStandIn t = false by simpa using List.all_eq_true.1 hall t hm)⟩)
    (by kernel_rfl)
#print axioms fnCodeCutCard_holds
end Go.Proofs.YtdacpdhpifocbaaDoor
