/-
  DERIVED. GIVEN WITH THE SEED: THE CARDS: each row of YtioaijjmialdoaaGreatDoorRows.lean that lists a variable, with what it lists TIED to the program's text (the seventh form; the later family's looks); each row that meets fmt, with fmt's text TOLD by the authors' own Lean function (tested against real Go, not proved from fmt's source: count such statements apart). THE CARD IS WHAT COUNTS. Prove the row's statement (the work); the ties are given (YtioaijjmialdoaaGreatDoorTie.lean); close each card by the builder's one call (the guide's Derived/Test/ToyasCard.lean, 'card_holds'). Laid BY PROGRAM, IN A SANDBOX (cutbox-door.mjs). By AI agents, Wed Nov 11 2026. No macro, syntax, notation, axiom, sorry.
-/
import Derived.Test.YtioaijjmialdoaaGreatDoorRows
import GoSem.ClaimSeven
namespace Go.Proofs.YtioaijjmialdoaaGreatDoor
namespace Rows

/-- THE TIED CARD OF 'tidewaitertop.WholeTold'. -/
def wholeToldCard : Claim7 := { stood := { row := wholeToldRow, standIns := [], harness := (true, "a8e79ebec55ee94e19e2f7e06f0a01f06d065657991ec2f8544ca0ee19804b3b"), looks := true }, kinds := [], alts := [], laidByText := true, laidKinds := [.data, .data, .data, .data, .sentinel, .sentinel, .pinned], laidTests := true, laidLooks := .later }
def WholeToldCardSaid : Prop := Claim7.holds Tryz.pinned (.plain (OpenSpec.ofChange wholeToldSpec)) wholeToldCard

/-- THE SECOND FORM's CARD OF 'tidewaitertop.WholeTold'. -/
def wholeToldUptoCard : Claim7 := { stood := { row := wholeToldUptoRow, standIns := [], harness := (true, "a8e79ebec55ee94e19e2f7e06f0a01f06d065657991ec2f8544ca0ee19804b3b"), looks := true }, kinds := [], alts := [], laidByText := true, laidKinds := [.data, .data, .data, .data, .sentinel, .sentinel, .pinned], laidTests := true, laidLooks := .later }
def WholeToldUptoCardSaid : Prop := Claim7.holds Tryz.pinned (.plain (OpenSpec.upto wholeToldSpec)) wholeToldUptoCard
end Rows
end Go.Proofs.YtioaijjmialdoaaGreatDoor
