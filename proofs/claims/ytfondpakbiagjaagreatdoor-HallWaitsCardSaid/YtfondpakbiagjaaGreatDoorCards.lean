/-
  DERIVED. GIVEN WITH THE SEED: THE CARDS: each row of YtfondpakbiagjaaGreatDoorRows.lean that lists a variable, with what it lists TIED to the program's text (the seventh form; the later family's looks); each row that meets fmt, with fmt's text TOLD by the authors' own Lean function (tested against real Go, not proved from fmt's source: count such statements apart). THE CARD IS WHAT COUNTS. Prove the row's statement (the work); the ties are given (YtfondpakbiagjaaGreatDoorTie.lean); close each card by the builder's one call (the guide's Derived/Test/ToyasCard.lean, 'card_holds'). Laid BY PROGRAM, IN A SANDBOX (cutbox-door.mjs). By AI agents, Wed Nov 11 2026. No macro, syntax, notation, axiom, sorry.
-/
import Derived.Test.YtfondpakbiagjaaGreatDoorRows
import GoSem.ClaimSeven
namespace Go.Proofs.YtfondpakbiagjaaGreatDoor
namespace Rows

/-- THE TIED CARD OF 'tyreworkslaw10.HallJudges'. -/
def hallJudgesCard : Claim7 := { stood := { row := hallJudgesRow, standIns := [], harness := (true, "b31a0738ad63fcb900355005e36c2cfa67439dd2b88394dd3704aff8e7746a14"), looks := true }, kinds := [], alts := [], laidByText := true, laidKinds := [.data, .data, .data, .data, .sentinel, .sentinel, .pinned], laidTests := true, laidLooks := .later }
def HallJudgesCardSaid : Prop := Claim7.holds Tryz.pinned (.plain (OpenSpec.ofChange hallJudgesSpec)) hallJudgesCard

/-- THE TIED CARD OF 'tyreworkslaw10.HallMonotone'. -/
def hallMonotoneCard : Claim7 := { stood := { row := hallMonotoneRow, standIns := [], harness := (true, "b31a0738ad63fcb900355005e36c2cfa67439dd2b88394dd3704aff8e7746a14"), looks := true }, kinds := [], alts := [], laidByText := true, laidKinds := [.data, .data, .data, .data, .sentinel, .sentinel, .pinned], laidTests := true, laidLooks := .later }
def HallMonotoneCardSaid : Prop := Claim7.holds Tryz.pinned (.plain (OpenSpec.ofChange hallMonotoneSpec)) hallMonotoneCard

/-- THE TIED CARD OF 'tyreworkslaw10.HallWaits'. -/
def hallWaitsCard : Claim7 := { stood := { row := hallWaitsRow, standIns := [], harness := (true, "b31a0738ad63fcb900355005e36c2cfa67439dd2b88394dd3704aff8e7746a14"), looks := true }, kinds := [], alts := [], laidByText := true, laidKinds := [.data, .data, .data, .data, .sentinel, .sentinel, .pinned], laidTests := true, laidLooks := .later }
def HallWaitsCardSaid : Prop := Claim7.holds Tryz.pinned (.plain (OpenSpec.ofChange hallWaitsSpec)) hallWaitsCard

/-- THE TIED CARD OF 'tyreworkslaw10.HallCasings'. -/
def hallCasingsCard : Claim7 := { stood := { row := hallCasingsRow, standIns := [], harness := (true, "b31a0738ad63fcb900355005e36c2cfa67439dd2b88394dd3704aff8e7746a14"), looks := true }, kinds := [], alts := [], laidByText := true, laidKinds := [.data, .data, .data, .data, .sentinel, .sentinel, .pinned], laidTests := true, laidLooks := .later }
def HallCasingsCardSaid : Prop := Claim7.holds Tryz.pinned (.plain (OpenSpec.ofChange hallCasingsSpec)) hallCasingsCard

/-- THE SECOND FORM's CARD OF 'tyreworkslaw10.HallJudges'. -/
def hallJudgesUptoCard : Claim7 := { stood := { row := hallJudgesUptoRow, standIns := [], harness := (true, "b31a0738ad63fcb900355005e36c2cfa67439dd2b88394dd3704aff8e7746a14"), looks := true }, kinds := [], alts := [], laidByText := true, laidKinds := [.data, .data, .data, .data, .sentinel, .sentinel, .pinned], laidTests := true, laidLooks := .later }
def HallJudgesUptoCardSaid : Prop := Claim7.holds Tryz.pinned (.plain (OpenSpec.upto hallJudgesSpec)) hallJudgesUptoCard

/-- THE SECOND FORM's CARD OF 'tyreworkslaw10.HallMonotone'. -/
def hallMonotoneUptoCard : Claim7 := { stood := { row := hallMonotoneUptoRow, standIns := [], harness := (true, "b31a0738ad63fcb900355005e36c2cfa67439dd2b88394dd3704aff8e7746a14"), looks := true }, kinds := [], alts := [], laidByText := true, laidKinds := [.data, .data, .data, .data, .sentinel, .sentinel, .pinned], laidTests := true, laidLooks := .later }
def HallMonotoneUptoCardSaid : Prop := Claim7.holds Tryz.pinned (.plain (OpenSpec.upto hallMonotoneSpec)) hallMonotoneUptoCard

/-- THE SECOND FORM's CARD OF 'tyreworkslaw10.HallWaits'. -/
def hallWaitsUptoCard : Claim7 := { stood := { row := hallWaitsUptoRow, standIns := [], harness := (true, "b31a0738ad63fcb900355005e36c2cfa67439dd2b88394dd3704aff8e7746a14"), looks := true }, kinds := [], alts := [], laidByText := true, laidKinds := [.data, .data, .data, .data, .sentinel, .sentinel, .pinned], laidTests := true, laidLooks := .later }
def HallWaitsUptoCardSaid : Prop := Claim7.holds Tryz.pinned (.plain (OpenSpec.upto hallWaitsSpec)) hallWaitsUptoCard

/-- THE SECOND FORM's CARD OF 'tyreworkslaw10.HallCasings'. -/
def hallCasingsUptoCard : Claim7 := { stood := { row := hallCasingsUptoRow, standIns := [], harness := (true, "b31a0738ad63fcb900355005e36c2cfa67439dd2b88394dd3704aff8e7746a14"), looks := true }, kinds := [], alts := [], laidByText := true, laidKinds := [.data, .data, .data, .data, .sentinel, .sentinel, .pinned], laidTests := true, laidLooks := .later }
def HallCasingsUptoCardSaid : Prop := Claim7.holds Tryz.pinned (.plain (OpenSpec.upto hallCasingsSpec)) hallCasingsUptoCard
end Rows
end Go.Proofs.YtfondpakbiagjaaGreatDoor
