/-
  DERIVED. GIVEN WITH THE SEED: THE CARDS: each row of YtioaijjmialdoaaDoorRows.lean that lists a variable, with what it lists TIED to the program's text (the seventh form; the later family's looks); each row that meets fmt, with fmt's text TOLD by the authors' own Lean function (tested against real Go, not proved from fmt's source: count such statements apart). THE CARD IS WHAT COUNTS. Prove the row's statement (the work); the ties are given (YtioaijjmialdoaaDoorTie.lean); close each card by the builder's one call (the guide's Derived/Test/ToyasCard.lean, 'card_holds'). Laid BY PROGRAM, IN A SANDBOX (cutbox-door.mjs). By AI agents, Wed Nov 11 2026. No macro, syntax, notation, axiom, sorry.
-/
import Derived.Test.YtioaijjmialdoaaDoorRows
import GoSem.ClaimSeven
namespace Go.Proofs.YtioaijjmialdoaaDoor
namespace Rows

/-- THE TIED CARD OF 'tidewaiterlaw22.EventReads'. -/
def eventReadsCard : Claim7 := { stood := { row := eventReadsRow, standIns := [], harness := (true, "412a043d4a6a12a053c069c40db51097092d46b5590eeaeea82d4ffec0248c68"), looks := true }, kinds := [], alts := [], laidByText := true, laidKinds := [.data, .data, .data, .data, .sentinel, .sentinel, .pinned], laidTests := true, laidLooks := .later }
def EventReadsCardSaid : Prop := Claim7.holds Tryd.pinned (.plain (OpenSpec.ofChange eventReadsSpec)) eventReadsCard

/-- THE TIED CARD OF 'tidewaiterlaw22.EventSorts'. -/
def eventSortsCard : Claim7 := { stood := { row := eventSortsRow, standIns := [], harness := (true, "412a043d4a6a12a053c069c40db51097092d46b5590eeaeea82d4ffec0248c68"), looks := true }, kinds := [], alts := [], laidByText := true, laidKinds := [.data, .data, .data, .data, .sentinel, .sentinel, .pinned], laidTests := true, laidLooks := .later }
def EventSortsCardSaid : Prop := Claim7.holds Tryd.pinned (.plain (OpenSpec.ofChange eventSortsSpec)) eventSortsCard

/-- THE TIED CARD OF 'tidewaiterlaw22.EventBack'. -/
def eventBackCard : Claim7 := { stood := { row := eventBackRow, standIns := [], harness := (true, "412a043d4a6a12a053c069c40db51097092d46b5590eeaeea82d4ffec0248c68"), looks := true }, kinds := [], alts := [], laidByText := true, laidKinds := [.data, .data, .data, .data, .sentinel, .sentinel, .pinned], laidTests := true, laidLooks := .later }
def EventBackCardSaid : Prop := Claim7.holds Tryd.pinned (.plain (OpenSpec.ofChange eventBackSpec)) eventBackCard

/-- THE SECOND FORM's CARD OF 'tidewaiterlaw22.EventReads'. -/
def eventReadsUptoCard : Claim7 := { stood := { row := eventReadsUptoRow, standIns := [], harness := (true, "412a043d4a6a12a053c069c40db51097092d46b5590eeaeea82d4ffec0248c68"), looks := true }, kinds := [], alts := [], laidByText := true, laidKinds := [.data, .data, .data, .data, .sentinel, .sentinel, .pinned], laidTests := true, laidLooks := .later }
def EventReadsUptoCardSaid : Prop := Claim7.holds Tryd.pinned (.plain (OpenSpec.upto eventReadsSpec)) eventReadsUptoCard

/-- THE SECOND FORM's CARD OF 'tidewaiterlaw22.EventSorts'. -/
def eventSortsUptoCard : Claim7 := { stood := { row := eventSortsUptoRow, standIns := [], harness := (true, "412a043d4a6a12a053c069c40db51097092d46b5590eeaeea82d4ffec0248c68"), looks := true }, kinds := [], alts := [], laidByText := true, laidKinds := [.data, .data, .data, .data, .sentinel, .sentinel, .pinned], laidTests := true, laidLooks := .later }
def EventSortsUptoCardSaid : Prop := Claim7.holds Tryd.pinned (.plain (OpenSpec.upto eventSortsSpec)) eventSortsUptoCard

/-- THE SECOND FORM's CARD OF 'tidewaiterlaw22.EventBack'. -/
def eventBackUptoCard : Claim7 := { stood := { row := eventBackUptoRow, standIns := [], harness := (true, "412a043d4a6a12a053c069c40db51097092d46b5590eeaeea82d4ffec0248c68"), looks := true }, kinds := [], alts := [], laidByText := true, laidKinds := [.data, .data, .data, .data, .sentinel, .sentinel, .pinned], laidTests := true, laidLooks := .later }
def EventBackUptoCardSaid : Prop := Claim7.holds Tryd.pinned (.plain (OpenSpec.upto eventBackSpec)) eventBackUptoCard
end Rows
end Go.Proofs.YtioaijjmialdoaaDoor
