/-
  DERIVED. GIVEN WITH THE SEED: THE CARDS: each row of YtckndjgdfhbgcaaDoorRows.lean that lists a variable, with what it lists TIED to the program's text (the seventh form; the later family's looks); each row that meets fmt, with fmt's text TOLD by the authors' own Lean function (tested against real Go, not proved from fmt's source: count such statements apart). THE CARD IS WHAT COUNTS. Prove the row's statement (the work); the ties are given (YtckndjgdfhbgcaaDoorTie.lean); close each card by the builder's one call (the guide's Derived/Test/ToyasCard.lean, 'card_holds'). Laid BY PROGRAM, IN A SANDBOX (cutbox-door.mjs). By AI agents, Wed Nov 11 2026. No macro, syntax, notation, axiom, sorry.
-/
import Derived.Test.YtckndjgdfhbgcaaDoorRows
import GoSem.ClaimSeven
namespace Go.Proofs.YtckndjgdfhbgcaaDoor
namespace Rows

/-- THE TIED CARD OF 'tidewaiterlaw11.PunctNows'. -/
def punctNowsCard : Claim7 := { stood := { row := punctNowsRow, standIns := [], harness := (true, "85ea8a44bbab32bc89cc5e5d275553be90d5d405ff154195395736481285e7a5"), looks := false }, kinds := [], alts := [], laidByText := true, laidKinds := [.data, .pinned], laidTests := true, laidLooks := .later }
def PunctNowsCardSaid : Prop := Claim7.holds Tryd.pinned (.plain (OpenSpec.ofChange punctNowsSpec)) punctNowsCard

/-- THE TIED CARD OF 'tidewaiterlaw11.PunctMute'. -/
def punctMuteCard : Claim7 := { stood := { row := punctMuteRow, standIns := [], harness := (true, "85ea8a44bbab32bc89cc5e5d275553be90d5d405ff154195395736481285e7a5"), looks := false }, kinds := [], alts := [], laidByText := true, laidKinds := [.data, .pinned], laidTests := true, laidLooks := .later }
def PunctMuteCardSaid : Prop := Claim7.holds Tryd.pinned (.plain (OpenSpec.ofChange punctMuteSpec)) punctMuteCard

/-- THE TIED CARD OF 'tidewaitertop.WholeWays'. -/
def wholeWaysCard : Claim7 := { stood := { row := wholeWaysRow, standIns := [], harness := (true, "85ea8a44bbab32bc89cc5e5d275553be90d5d405ff154195395736481285e7a5"), looks := false }, kinds := [], alts := [], laidByText := true, laidKinds := [.data, .pinned], laidTests := true, laidLooks := .later }
def WholeWaysCardSaid : Prop := Claim7.holds Tryd.pinned (.plain (OpenSpec.ofChange wholeWaysSpec)) wholeWaysCard

/-- THE SECOND FORM's CARD OF 'tidewaiterlaw11.PunctNows'. -/
def punctNowsUptoCard : Claim7 := { stood := { row := punctNowsUptoRow, standIns := [], harness := (true, "85ea8a44bbab32bc89cc5e5d275553be90d5d405ff154195395736481285e7a5"), looks := false }, kinds := [], alts := [], laidByText := true, laidKinds := [.data, .pinned], laidTests := true, laidLooks := .later }
def PunctNowsUptoCardSaid : Prop := Claim7.holds Tryd.pinned (.plain (OpenSpec.upto punctNowsSpec)) punctNowsUptoCard

/-- THE SECOND FORM's CARD OF 'tidewaiterlaw11.PunctMute'. -/
def punctMuteUptoCard : Claim7 := { stood := { row := punctMuteUptoRow, standIns := [], harness := (true, "85ea8a44bbab32bc89cc5e5d275553be90d5d405ff154195395736481285e7a5"), looks := false }, kinds := [], alts := [], laidByText := true, laidKinds := [.data, .pinned], laidTests := true, laidLooks := .later }
def PunctMuteUptoCardSaid : Prop := Claim7.holds Tryd.pinned (.plain (OpenSpec.upto punctMuteSpec)) punctMuteUptoCard

/-- THE SECOND FORM's CARD OF 'tidewaitertop.WholeWays'. -/
def wholeWaysUptoCard : Claim7 := { stood := { row := wholeWaysUptoRow, standIns := [], harness := (true, "85ea8a44bbab32bc89cc5e5d275553be90d5d405ff154195395736481285e7a5"), looks := false }, kinds := [], alts := [], laidByText := true, laidKinds := [.data, .pinned], laidTests := true, laidLooks := .later }
def WholeWaysUptoCardSaid : Prop := Claim7.holds Tryd.pinned (.plain (OpenSpec.upto wholeWaysSpec)) wholeWaysUptoCard
end Rows
end Go.Proofs.YtckndjgdfhbgcaaDoor
