/-
  No cell of these rows narrows 'for every input' (looked for: loops, veiled, ifaces, maps, wideKeys, modest, calm, conditions, laid).
  DERIVED. THE GIVEN ROWS OF THIS SEAT. 6 by the template 'for every input the law returns true; each argument reads behind the call as it read before'; 0 by the template 'total and deterministic' (their statements: YtdacpdhpifocbaaTotals.lean).
  GIVEN WITH THE SEED: the statements are not yours to turn. If you find one false, say at which input.
  Laid BY PROGRAM, IN A SANDBOX (cutbox-rows.mjs): the forced cells as the released guide's own fill.sh prints them over the translation d6b1f1cf55381264… (all of the seat's roots in one cut). By AI agents, Wed Nov 11 2026. No macro, syntax, notation, axiom, sorry.
-/
import Derived.Test.YtdacpdhpifocbaaChecked
import GoSem.Claim
import GoSem.ClaimJoined
import GoSem.ClaimMapViews
import Derived.JoinedTies
import Derived.KernelRfl
namespace Go.Proofs.Ytdacpdhpifocbaa
/- THE CELL 'sum', in the pinned program and in every row, IS THE sha256 OF THE DUMP (.gsa) THAT YtdacpdhpifocbaaProg.lean LOADS. Nothing in Lean hashes anything: it is a label: what it is worth is what the hold of that sum in a sandbox is worth. -/
noncomputable def Try.pinned : Pinned := { name := "ytdacpdhpifocbaa", sum := "d6b1f1cf55381264e911eb49727782d233cc8d263eb78fbe049457338266eb31", checked := Try.checked }
namespace Rows
def none {H : Type} : Left H := { results := [], args := [] }

/-- 'laws.FnExactCodeTurns': WHATEVER THE INPUT: true; the input reads as it did. -/
def fnExactCodeTurnsSpec : ChangeSpec := { name := "fnExactCodeTurns", fn := fun _ => fun
  | [d] => { results := [.lit (.bool true)], args := [d] }
  | _ => none }
def fnExactCodeTurnsRow : OpenClaim := { program := "ytdacpdhpifocbaa", sum := "d6b1f1cf55381264e911eb49727782d233cc8d263eb78fbe049457338266eb31", func := "loop.example/mortiser/laws.FnExactCodeTurns", spec := "fnExactCodeTurns", apart := false }
def FnExactCodeTurnsSaid : Prop := fnExactCodeTurnsRow.holds Try.pinned (OpenSpec.ofChange fnExactCodeTurnsSpec)

/-- ITS FALSE NEIGHBOUR: 'it returns false'. Refute it at one input. -/
def fnExactCodeTurnsWrong : ChangeSpec := { name := "fnExactCodeTurns", fn := fun _ => fun
  | [d] => { results := [.lit (.bool false)], args := [d] }
  | _ => none }
def FnExactCodeTurnsWrongFalsely : Prop := fnExactCodeTurnsRow.holds Try.pinned (OpenSpec.ofChange fnExactCodeTurnsWrong)

/-- 'laws.FnExactCodeStay': WHATEVER THE INPUT: true; the input reads as it did. -/
def fnExactCodeStaySpec : ChangeSpec := { name := "fnExactCodeStay", fn := fun _ => fun
  | [d] => { results := [.lit (.bool true)], args := [d] }
  | _ => none }
def fnExactCodeStayRow : OpenClaim := { program := "ytdacpdhpifocbaa", sum := "d6b1f1cf55381264e911eb49727782d233cc8d263eb78fbe049457338266eb31", func := "loop.example/mortiser/laws.FnExactCodeStay", spec := "fnExactCodeStay", apart := false }
def FnExactCodeStaySaid : Prop := fnExactCodeStayRow.holds Try.pinned (OpenSpec.ofChange fnExactCodeStaySpec)

/-- ITS FALSE NEIGHBOUR: 'it returns false'. Refute it at one input. -/
def fnExactCodeStayWrong : ChangeSpec := { name := "fnExactCodeStay", fn := fun _ => fun
  | [d] => { results := [.lit (.bool false)], args := [d] }
  | _ => none }
def FnExactCodeStayWrongFalsely : Prop := fnExactCodeStayRow.holds Try.pinned (OpenSpec.ofChange fnExactCodeStayWrong)

/-- 'laws.FnCodeOver': WHATEVER THE INPUT: true; the input reads as it did. -/
def fnCodeOverSpec : ChangeSpec := { name := "fnCodeOver", fn := fun _ => fun
  | [d] => { results := [.lit (.bool true)], args := [d] }
  | _ => none }
def fnCodeOverRow : OpenClaim := { program := "ytdacpdhpifocbaa", sum := "d6b1f1cf55381264e911eb49727782d233cc8d263eb78fbe049457338266eb31", func := "loop.example/mortiser/laws.FnCodeOver", spec := "fnCodeOver", apart := false }
def FnCodeOverSaid : Prop := fnCodeOverRow.holds Try.pinned (OpenSpec.ofChange fnCodeOverSpec)

/-- ITS FALSE NEIGHBOUR: 'it returns false'. Refute it at one input. -/
def fnCodeOverWrong : ChangeSpec := { name := "fnCodeOver", fn := fun _ => fun
  | [d] => { results := [.lit (.bool false)], args := [d] }
  | _ => none }
def FnCodeOverWrongFalsely : Prop := fnCodeOverRow.holds Try.pinned (OpenSpec.ofChange fnCodeOverWrong)

/-- 'laws.FnStay': WHATEVER THE INPUT: true; the input reads as it did. -/
def fnStaySpec : ChangeSpec := { name := "fnStay", fn := fun _ => fun
  | [d] => { results := [.lit (.bool true)], args := [d] }
  | _ => none }
def fnStayRow : OpenClaim := { program := "ytdacpdhpifocbaa", sum := "d6b1f1cf55381264e911eb49727782d233cc8d263eb78fbe049457338266eb31", func := "loop.example/mortiser/laws.FnStay", spec := "fnStay", apart := false }
def FnStaySaid : Prop := fnStayRow.holds Try.pinned (OpenSpec.ofChange fnStaySpec)

/-- ITS FALSE NEIGHBOUR: 'it returns false'. Refute it at one input. -/
def fnStayWrong : ChangeSpec := { name := "fnStay", fn := fun _ => fun
  | [d] => { results := [.lit (.bool false)], args := [d] }
  | _ => none }
def FnStayWrongFalsely : Prop := fnStayRow.holds Try.pinned (OpenSpec.ofChange fnStayWrong)

/-- 'laws.FnStayTurns': WHATEVER THE INPUT: true; the input reads as it did. -/
def fnStayTurnsSpec : ChangeSpec := { name := "fnStayTurns", fn := fun _ => fun
  | [d] => { results := [.lit (.bool true)], args := [d] }
  | _ => none }
def fnStayTurnsRow : OpenClaim := { program := "ytdacpdhpifocbaa", sum := "d6b1f1cf55381264e911eb49727782d233cc8d263eb78fbe049457338266eb31", func := "loop.example/mortiser/laws.FnStayTurns", spec := "fnStayTurns", apart := false }
def FnStayTurnsSaid : Prop := fnStayTurnsRow.holds Try.pinned (OpenSpec.ofChange fnStayTurnsSpec)

/-- ITS FALSE NEIGHBOUR: 'it returns false'. Refute it at one input. -/
def fnStayTurnsWrong : ChangeSpec := { name := "fnStayTurns", fn := fun _ => fun
  | [d] => { results := [.lit (.bool false)], args := [d] }
  | _ => none }
def FnStayTurnsWrongFalsely : Prop := fnStayTurnsRow.holds Try.pinned (OpenSpec.ofChange fnStayTurnsWrong)

/-- 'laws.FnTurns': WHATEVER THE INPUT: true; the input reads as it did. -/
def fnTurnsSpec : ChangeSpec := { name := "fnTurns", fn := fun _ => fun
  | [d] => { results := [.lit (.bool true)], args := [d] }
  | _ => none }
def fnTurnsRow : OpenClaim := { program := "ytdacpdhpifocbaa", sum := "d6b1f1cf55381264e911eb49727782d233cc8d263eb78fbe049457338266eb31", func := "loop.example/mortiser/laws.FnTurns", spec := "fnTurns", apart := false }
def FnTurnsSaid : Prop := fnTurnsRow.holds Try.pinned (OpenSpec.ofChange fnTurnsSpec)

/-- ITS FALSE NEIGHBOUR: 'it returns false'. Refute it at one input. -/
def fnTurnsWrong : ChangeSpec := { name := "fnTurns", fn := fun _ => fun
  | [d] => { results := [.lit (.bool false)], args := [d] }
  | _ => none }
def FnTurnsWrongFalsely : Prop := fnTurnsRow.holds Try.pinned (OpenSpec.ofChange fnTurnsWrong)

/- THE SECOND FORM. 'bulk': how many values and letters a reading holds, each counted each time it is reached (what is shared counts as often as it is met; a slice's spare places count too). A statement '..UptoSaid' is the law's where the arguments, and the package variables that the reading takes, are together of bulk at most 1048576: NARROWER than '..Said'. Prove '..Said' where nothing that the law and all that it calls make is longer than what came in: it says more and counts as full. Else prove '..UptoSaid'. A law counts once. -/
mutual
def uptoBulk {H : Type} : DataW H → Nat
  | .lit (.string bytes) => bytes.length + 1
  | .lit _ => 1
  | .nil => 1
  | .ptr d => uptoBulk d + 1
  | .slice elems spare => uptoBulkAll elems + uptoBulkAll spare + 1
  | .agg parts => uptoBulkAll parts + 1
  | .iface _ d => uptoBulk d + 1
  | .map entries => uptoBulkEntries entries + 1
  | .held _ => 1
def uptoBulkAll {H : Type} : List (DataW H) → Nat
  | [] => 0
  | d :: r => uptoBulk d + uptoBulkAll r
def uptoBulkEntries {H : Type} : List (Lit × DataW H) → Nat
  | [] => 0
  | x :: r => uptoBulkEntry x + uptoBulkEntries r
def uptoBulkEntry {H : Type} : Lit × DataW H → Nat
  | (.string bytes, d) => bytes.length + uptoBulk d + 1
  | (_, d) => uptoBulk d + 1
 end
def uptoSmall : (H : Type) → List (DataW H) → Bool := fun _ ds => decide (uptoBulkAll ds ≤ 1048576)
def OpenSpec.upto (s : _root_.Go.ChangeSpec) : _root_.Go.OpenSpec := { _root_.Go.OpenSpec.ofChange s with cond := some uptoSmall }

/-- 'laws.FnExactCodeTurns', WHERE WHAT IT READS IS OF BULK AT MOST 1048576: true; the input reads as it did. -/
def fnExactCodeTurnsUptoRow : OpenClaim := { program := "ytdacpdhpifocbaa", sum := "d6b1f1cf55381264e911eb49727782d233cc8d263eb78fbe049457338266eb31", func := "loop.example/mortiser/laws.FnExactCodeTurns", spec := "fnExactCodeTurns", apart := false, narrowed := true }
def FnExactCodeTurnsUptoSaid : Prop := fnExactCodeTurnsUptoRow.holds Try.pinned (OpenSpec.upto fnExactCodeTurnsSpec)

/-- 'laws.FnExactCodeStay', WHERE WHAT IT READS IS OF BULK AT MOST 1048576: true; the input reads as it did. -/
def fnExactCodeStayUptoRow : OpenClaim := { program := "ytdacpdhpifocbaa", sum := "d6b1f1cf55381264e911eb49727782d233cc8d263eb78fbe049457338266eb31", func := "loop.example/mortiser/laws.FnExactCodeStay", spec := "fnExactCodeStay", apart := false, narrowed := true }
def FnExactCodeStayUptoSaid : Prop := fnExactCodeStayUptoRow.holds Try.pinned (OpenSpec.upto fnExactCodeStaySpec)

/-- 'laws.FnCodeOver', WHERE WHAT IT READS IS OF BULK AT MOST 1048576: true; the input reads as it did. -/
def fnCodeOverUptoRow : OpenClaim := { program := "ytdacpdhpifocbaa", sum := "d6b1f1cf55381264e911eb49727782d233cc8d263eb78fbe049457338266eb31", func := "loop.example/mortiser/laws.FnCodeOver", spec := "fnCodeOver", apart := false, narrowed := true }
def FnCodeOverUptoSaid : Prop := fnCodeOverUptoRow.holds Try.pinned (OpenSpec.upto fnCodeOverSpec)

/-- 'laws.FnStay', WHERE WHAT IT READS IS OF BULK AT MOST 1048576: true; the input reads as it did. -/
def fnStayUptoRow : OpenClaim := { program := "ytdacpdhpifocbaa", sum := "d6b1f1cf55381264e911eb49727782d233cc8d263eb78fbe049457338266eb31", func := "loop.example/mortiser/laws.FnStay", spec := "fnStay", apart := false, narrowed := true }
def FnStayUptoSaid : Prop := fnStayUptoRow.holds Try.pinned (OpenSpec.upto fnStaySpec)

/-- 'laws.FnStayTurns', WHERE WHAT IT READS IS OF BULK AT MOST 1048576: true; the input reads as it did. -/
def fnStayTurnsUptoRow : OpenClaim := { program := "ytdacpdhpifocbaa", sum := "d6b1f1cf55381264e911eb49727782d233cc8d263eb78fbe049457338266eb31", func := "loop.example/mortiser/laws.FnStayTurns", spec := "fnStayTurns", apart := false, narrowed := true }
def FnStayTurnsUptoSaid : Prop := fnStayTurnsUptoRow.holds Try.pinned (OpenSpec.upto fnStayTurnsSpec)

/-- 'laws.FnTurns', WHERE WHAT IT READS IS OF BULK AT MOST 1048576: true; the input reads as it did. -/
def fnTurnsUptoRow : OpenClaim := { program := "ytdacpdhpifocbaa", sum := "d6b1f1cf55381264e911eb49727782d233cc8d263eb78fbe049457338266eb31", func := "loop.example/mortiser/laws.FnTurns", spec := "fnTurns", apart := false, narrowed := true }
def FnTurnsUptoSaid : Prop := fnTurnsUptoRow.holds Try.pinned (OpenSpec.upto fnTurnsSpec)

end Rows
end Go.Proofs.Ytdacpdhpifocbaa
