/-
  DERIVED. GIVEN WITH THE SEED: THE CARDS: each row of YtdacpdhpifocbaaDoorRows.lean that lists a variable, with what it lists TIED to the program's text (the seventh form; the later family's looks); each row that meets fmt, with fmt's text TOLD by the authors' own Lean function (tested against real Go, not proved from fmt's source: count such statements apart). THE CARD IS WHAT COUNTS. Prove the row's statement (the work); the ties are given (YtdacpdhpifocbaaDoorTie.lean); close each card by the builder's one call (the guide's Derived/Test/ToyasCard.lean, 'card_holds'). Laid BY PROGRAM, IN A SANDBOX (cutbox-door.mjs). By AI agents, Wed Nov 11 2026. No macro, syntax, notation, axiom, sorry.
-/
import Derived.Test.YtdacpdhpifocbaaDoorRows
import GoSem.ClaimSeven
namespace Go.Proofs.YtdacpdhpifocbaaDoor
namespace Rows

/-- THE TIED CARD OF 'laws.FnExactCodeWrite'. -/
def fnExactCodeWriteCard : Claim7 := { stood := { row := fnExactCodeWriteRow, standIns := [], harness := (true, "0b9101586ae29fe4c1c85b4d6fcdc0b3c59a12e38a0885b21a12a8211c02b38e"), looks := false }, kinds := [], alts := [], laidByText := true, laidKinds := [.data, .data, .data], laidTests := true, laidLooks := .later }
def FnExactCodeWriteCardSaid : Prop := Claim7.holds Tryd.pinned (.plain (OpenSpec.ofChange fnExactCodeWriteSpec)) fnExactCodeWriteCard

/-- THE TIED CARD OF 'laws.FnCodeOne'. -/
def fnCodeOneCard : Claim7 := { stood := { row := fnCodeOneRow, standIns := [], harness := (true, "0b9101586ae29fe4c1c85b4d6fcdc0b3c59a12e38a0885b21a12a8211c02b38e"), looks := false }, kinds := [], alts := [], laidByText := true, laidKinds := [.data, .data, .data], laidTests := true, laidLooks := .later }
def FnCodeOneCardSaid : Prop := Claim7.holds Tryd.pinned (.plain (OpenSpec.ofChange fnCodeOneSpec)) fnCodeOneCard

/-- THE TIED CARD OF 'laws.FnStayOne'. -/
def fnStayOneCard : Claim7 := { stood := { row := fnStayOneRow, standIns := [], harness := (true, "0b9101586ae29fe4c1c85b4d6fcdc0b3c59a12e38a0885b21a12a8211c02b38e"), looks := false }, kinds := [], alts := [], laidByText := true, laidKinds := [.data, .data, .data], laidTests := true, laidLooks := .later }
def FnStayOneCardSaid : Prop := Claim7.holds Tryd.pinned (.plain (OpenSpec.ofChange fnStayOneSpec)) fnStayOneCard

/-- THE TIED CARD OF 'laws.FnCodeCut'. -/
def fnCodeCutCard : Claim7 := { stood := { row := fnCodeCutRow, standIns := [], harness := (true, "0b9101586ae29fe4c1c85b4d6fcdc0b3c59a12e38a0885b21a12a8211c02b38e"), looks := false }, kinds := [], alts := [], laidByText := true, laidKinds := [.data, .data, .data, .data, .pinned], laidTests := true, laidLooks := .later }
def FnCodeCutCardSaid : Prop := Claim7.holds Tryd.pinned (.plain (OpenSpec.ofChange fnCodeCutSpec)) fnCodeCutCard

/-- THE TIED CARD OF 'laws.FnCodeBack'. -/
def fnCodeBackCard : Claim7 := { stood := { row := fnCodeBackRow, standIns := [], harness := (true, "0b9101586ae29fe4c1c85b4d6fcdc0b3c59a12e38a0885b21a12a8211c02b38e"), looks := false }, kinds := [], alts := [], laidByText := true, laidKinds := [.data, .data, .data, .data, .pinned], laidTests := true, laidLooks := .later }
def FnCodeBackCardSaid : Prop := Claim7.holds Tryd.pinned (.plain (OpenSpec.ofChange fnCodeBackSpec)) fnCodeBackCard

/-- THE TIED CARD OF 'laws.FnExactCodeRead'. -/
def fnExactCodeReadCard : Claim7 := { stood := { row := fnExactCodeReadRow, standIns := [], harness := (true, "0b9101586ae29fe4c1c85b4d6fcdc0b3c59a12e38a0885b21a12a8211c02b38e"), looks := false }, kinds := [], alts := [], laidByText := true, laidKinds := [.data, .data, .data, .data, .pinned], laidTests := true, laidLooks := .later }
def FnExactCodeReadCardSaid : Prop := Claim7.holds Tryd.pinned (.plain (OpenSpec.ofChange fnExactCodeReadSpec)) fnExactCodeReadCard

/-- THE TIED CARD OF 'laws.FnCodeStrict'. -/
def fnCodeStrictCard : Claim7 := { stood := { row := fnCodeStrictRow, standIns := [], harness := (true, "0b9101586ae29fe4c1c85b4d6fcdc0b3c59a12e38a0885b21a12a8211c02b38e"), looks := false }, kinds := [], alts := [], laidByText := true, laidKinds := [.data, .data, .data, .data, .pinned], laidTests := true, laidLooks := .later }
def FnCodeStrictCardSaid : Prop := Claim7.holds Tryd.pinned (.plain (OpenSpec.ofChange fnCodeStrictSpec)) fnCodeStrictCard

/-- THE SECOND FORM's CARD OF 'laws.FnExactCodeWrite'. -/
def fnExactCodeWriteUptoCard : Claim7 := { stood := { row := fnExactCodeWriteUptoRow, standIns := [], harness := (true, "0b9101586ae29fe4c1c85b4d6fcdc0b3c59a12e38a0885b21a12a8211c02b38e"), looks := false }, kinds := [], alts := [], laidByText := true, laidKinds := [.data, .data, .data], laidTests := true, laidLooks := .later }
def FnExactCodeWriteUptoCardSaid : Prop := Claim7.holds Tryd.pinned (.plain (OpenSpec.upto fnExactCodeWriteSpec)) fnExactCodeWriteUptoCard

/-- THE SECOND FORM's CARD OF 'laws.FnCodeOne'. -/
def fnCodeOneUptoCard : Claim7 := { stood := { row := fnCodeOneUptoRow, standIns := [], harness := (true, "0b9101586ae29fe4c1c85b4d6fcdc0b3c59a12e38a0885b21a12a8211c02b38e"), looks := false }, kinds := [], alts := [], laidByText := true, laidKinds := [.data, .data, .data], laidTests := true, laidLooks := .later }
def FnCodeOneUptoCardSaid : Prop := Claim7.holds Tryd.pinned (.plain (OpenSpec.upto fnCodeOneSpec)) fnCodeOneUptoCard

/-- THE SECOND FORM's CARD OF 'laws.FnStayOne'. -/
def fnStayOneUptoCard : Claim7 := { stood := { row := fnStayOneUptoRow, standIns := [], harness := (true, "0b9101586ae29fe4c1c85b4d6fcdc0b3c59a12e38a0885b21a12a8211c02b38e"), looks := false }, kinds := [], alts := [], laidByText := true, laidKinds := [.data, .data, .data], laidTests := true, laidLooks := .later }
def FnStayOneUptoCardSaid : Prop := Claim7.holds Tryd.pinned (.plain (OpenSpec.upto fnStayOneSpec)) fnStayOneUptoCard

/-- THE SECOND FORM's CARD OF 'laws.FnCodeCut'. -/
def fnCodeCutUptoCard : Claim7 := { stood := { row := fnCodeCutUptoRow, standIns := [], harness := (true, "0b9101586ae29fe4c1c85b4d6fcdc0b3c59a12e38a0885b21a12a8211c02b38e"), looks := false }, kinds := [], alts := [], laidByText := true, laidKinds := [.data, .data, .data, .data, .pinned], laidTests := true, laidLooks := .later }
def FnCodeCutUptoCardSaid : Prop := Claim7.holds Tryd.pinned (.plain (OpenSpec.upto fnCodeCutSpec)) fnCodeCutUptoCard

/-- THE SECOND FORM's CARD OF 'laws.FnCodeBack'. -/
def fnCodeBackUptoCard : Claim7 := { stood := { row := fnCodeBackUptoRow, standIns := [], harness := (true, "0b9101586ae29fe4c1c85b4d6fcdc0b3c59a12e38a0885b21a12a8211c02b38e"), looks := false }, kinds := [], alts := [], laidByText := true, laidKinds := [.data, .data, .data, .data, .pinned], laidTests := true, laidLooks := .later }
def FnCodeBackUptoCardSaid : Prop := Claim7.holds Tryd.pinned (.plain (OpenSpec.upto fnCodeBackSpec)) fnCodeBackUptoCard

/-- THE SECOND FORM's CARD OF 'laws.FnExactCodeRead'. -/
def fnExactCodeReadUptoCard : Claim7 := { stood := { row := fnExactCodeReadUptoRow, standIns := [], harness := (true, "0b9101586ae29fe4c1c85b4d6fcdc0b3c59a12e38a0885b21a12a8211c02b38e"), looks := false }, kinds := [], alts := [], laidByText := true, laidKinds := [.data, .data, .data, .data, .pinned], laidTests := true, laidLooks := .later }
def FnExactCodeReadUptoCardSaid : Prop := Claim7.holds Tryd.pinned (.plain (OpenSpec.upto fnExactCodeReadSpec)) fnExactCodeReadUptoCard

/-- THE SECOND FORM's CARD OF 'laws.FnCodeStrict'. -/
def fnCodeStrictUptoCard : Claim7 := { stood := { row := fnCodeStrictUptoRow, standIns := [], harness := (true, "0b9101586ae29fe4c1c85b4d6fcdc0b3c59a12e38a0885b21a12a8211c02b38e"), looks := false }, kinds := [], alts := [], laidByText := true, laidKinds := [.data, .data, .data, .data, .pinned], laidTests := true, laidLooks := .later }
def FnCodeStrictUptoCardSaid : Prop := Claim7.holds Tryd.pinned (.plain (OpenSpec.upto fnCodeStrictSpec)) fnCodeStrictUptoCard
end Rows
end Go.Proofs.YtdacpdhpifocbaaDoor
