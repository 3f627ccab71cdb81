/-
  DERIVED. GIVEN WITH THE SEED: THE CARDS: each row of YtockkjhciojgbaaGreatDoorRows.lean that lists a variable, with what it lists TIED to the program's text (the seventh form; the later family's looks); each row that meets fmt, with fmt's text TOLD by the authors' own Lean function (tested against real Go, not proved from fmt's source: count such statements apart). THE CARD IS WHAT COUNTS. Prove the row's statement (the work); the ties are given (YtockkjhciojgbaaGreatDoorTie.lean); close each card by the builder's one call (the guide's Derived/Test/ToyasCard.lean, 'card_holds'). Laid BY PROGRAM, IN A SANDBOX (cutbox-door.mjs). By AI agents, Wed Nov 11 2026. No macro, syntax, notation, axiom, sorry.
-/
import Derived.Test.YtockkjhciojgbaaGreatDoorRows
import GoSem.ClaimSeven
namespace Go.Proofs.YtockkjhciojgbaaGreatDoor
namespace Rows

/-- THE TIED CARD OF 'tidewaiterlaw26.ReportError'. -/
def reportErrorCard : Claim7 := { stood := { row := reportErrorRow, standIns := [], harness := (true, "c0e15b0888ce9ae5dcd887c3b15f72c9eb44d5d4a15e6363c12af6e541986eb4"), looks := true }, kinds := [], alts := [], laidByText := true, laidKinds := [.data, .data, .data, .data, .sentinel, .sentinel, .pinned], laidTests := true, laidLooks := .later }
def ReportErrorCardSaid : Prop := Claim7.holds Tryz.pinned (.plain (OpenSpec.ofChange reportErrorSpec)) reportErrorCard

/-- THE TIED CARD OF 'tidewaiterlaw26.ReportBack'. -/
def reportBackCard : Claim7 := { stood := { row := reportBackRow, standIns := [], harness := (true, "c0e15b0888ce9ae5dcd887c3b15f72c9eb44d5d4a15e6363c12af6e541986eb4"), looks := true }, kinds := [], alts := [], laidByText := true, laidKinds := [.data, .data, .data, .data, .sentinel, .sentinel, .pinned], laidTests := true, laidLooks := .later }
def ReportBackCardSaid : Prop := Claim7.holds Tryz.pinned (.plain (OpenSpec.ofChange reportBackSpec)) reportBackCard

/-- THE TIED CARD OF 'tidewaiterlaw26.ReportParses'. -/
def reportParsesCard : Claim7 := { stood := { row := reportParsesRow, standIns := [], harness := (true, "c0e15b0888ce9ae5dcd887c3b15f72c9eb44d5d4a15e6363c12af6e541986eb4"), looks := true }, kinds := [], alts := [], laidByText := true, laidKinds := [.data, .data, .data, .data, .sentinel, .sentinel, .pinned], laidTests := true, laidLooks := .later }
def ReportParsesCardSaid : Prop := Claim7.holds Tryz.pinned (.plain (OpenSpec.ofChange reportParsesSpec)) reportParsesCard

/-- THE SECOND FORM's CARD OF 'tidewaiterlaw26.ReportError'. -/
def reportErrorUptoCard : Claim7 := { stood := { row := reportErrorUptoRow, standIns := [], harness := (true, "c0e15b0888ce9ae5dcd887c3b15f72c9eb44d5d4a15e6363c12af6e541986eb4"), looks := true }, kinds := [], alts := [], laidByText := true, laidKinds := [.data, .data, .data, .data, .sentinel, .sentinel, .pinned], laidTests := true, laidLooks := .later }
def ReportErrorUptoCardSaid : Prop := Claim7.holds Tryz.pinned (.plain (OpenSpec.upto reportErrorSpec)) reportErrorUptoCard

/-- THE SECOND FORM's CARD OF 'tidewaiterlaw26.ReportBack'. -/
def reportBackUptoCard : Claim7 := { stood := { row := reportBackUptoRow, standIns := [], harness := (true, "c0e15b0888ce9ae5dcd887c3b15f72c9eb44d5d4a15e6363c12af6e541986eb4"), looks := true }, kinds := [], alts := [], laidByText := true, laidKinds := [.data, .data, .data, .data, .sentinel, .sentinel, .pinned], laidTests := true, laidLooks := .later }
def ReportBackUptoCardSaid : Prop := Claim7.holds Tryz.pinned (.plain (OpenSpec.upto reportBackSpec)) reportBackUptoCard

/-- THE SECOND FORM's CARD OF 'tidewaiterlaw26.ReportParses'. -/
def reportParsesUptoCard : Claim7 := { stood := { row := reportParsesUptoRow, standIns := [], harness := (true, "c0e15b0888ce9ae5dcd887c3b15f72c9eb44d5d4a15e6363c12af6e541986eb4"), looks := true }, kinds := [], alts := [], laidByText := true, laidKinds := [.data, .data, .data, .data, .sentinel, .sentinel, .pinned], laidTests := true, laidLooks := .later }
def ReportParsesUptoCardSaid : Prop := Claim7.holds Tryz.pinned (.plain (OpenSpec.upto reportParsesSpec)) reportParsesUptoCard
end Rows
end Go.Proofs.YtockkjhciojgbaaGreatDoor
