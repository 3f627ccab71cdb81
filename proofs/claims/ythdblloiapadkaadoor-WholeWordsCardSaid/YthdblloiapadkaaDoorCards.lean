/-
  DERIVED. GIVEN WITH THE SEED: THE CARDS: each row of YthdblloiapadkaaDoorRows.lean that lists a variable, with what it lists TIED to the program's text (the seventh form; the later family's looks); each row that meets fmt, with fmt's text TOLD by the authors' own Lean function (tested against real Go, not proved from fmt's source: count such statements apart). THE CARD IS WHAT COUNTS. Prove the row's statement (the work); the ties are given (YthdblloiapadkaaDoorTie.lean); close each card by the builder's one call (the guide's Derived/Test/ToyasCard.lean, 'card_holds'). Laid BY PROGRAM, IN A SANDBOX (cutbox-door.mjs). By AI agents, Wed Nov 11 2026. No macro, syntax, notation, axiom, sorry.
-/
import Derived.Test.YthdblloiapadkaaDoorRows
import GoSem.ClaimSeven
namespace Go.Proofs.YthdblloiapadkaaDoor
namespace Rows

/-- THE TIED CARD OF 'tidewaiterlaw04.QuoteBack'. -/
def quoteBackCard : Claim7 := { stood := { row := quoteBackRow, standIns := [], harness := (true, "6ef71f8c02f1c71461c29320a1248e4af36b8a63e46ca61e53458e415f3eb3d6"), looks := true }, kinds := [], alts := [], laidByText := true, laidKinds := [.data, .data, .data, .data, .sentinel, .sentinel, .pinned], laidTests := true, laidLooks := .later }
def QuoteBackCardSaid : Prop := Claim7.holds Tryd.pinned (.plain (OpenSpec.ofChange quoteBackSpec)) quoteBackCard

/-- THE TIED CARD OF 'tidewaiterlaw04.QuoteOne'. -/
def quoteOneCard : Claim7 := { stood := { row := quoteOneRow, standIns := [], harness := (true, "6ef71f8c02f1c71461c29320a1248e4af36b8a63e46ca61e53458e415f3eb3d6"), looks := true }, kinds := [], alts := [], laidByText := true, laidKinds := [.data, .data, .data, .data, .sentinel, .sentinel, .pinned], laidTests := true, laidLooks := .later }
def QuoteOneCardSaid : Prop := Claim7.holds Tryd.pinned (.plain (OpenSpec.ofChange quoteOneSpec)) quoteOneCard

/-- THE TIED CARD OF 'tidewaiterlaw04.QuoteSigns'. -/
def quoteSignsCard : Claim7 := { stood := { row := quoteSignsRow, standIns := [], harness := (true, "6ef71f8c02f1c71461c29320a1248e4af36b8a63e46ca61e53458e415f3eb3d6"), looks := true }, kinds := [], alts := [], laidByText := true, laidKinds := [.data, .data, .data, .data, .sentinel, .sentinel, .pinned], laidTests := true, laidLooks := .later }
def QuoteSignsCardSaid : Prop := Claim7.holds Tryd.pinned (.plain (OpenSpec.ofChange quoteSignsSpec)) quoteSignsCard

/-- THE TIED CARD OF 'tidewaiterlaw20.ChoiceReads'. -/
def choiceReadsCard : Claim7 := { stood := { row := choiceReadsRow, standIns := [], harness := (true, "6ef71f8c02f1c71461c29320a1248e4af36b8a63e46ca61e53458e415f3eb3d6"), looks := true }, kinds := [], alts := [], laidByText := true, laidKinds := [.data, .data, .data, .sentinel, .sentinel], laidTests := true, laidLooks := .later }
def ChoiceReadsCardSaid : Prop := Claim7.holds Tryd.pinned (.plain (OpenSpec.ofChange choiceReadsSpec)) choiceReadsCard

/-- THE TIED CARD OF 'tidewaiterlaw20.ChoiceRounds'. -/
def choiceRoundsCard : Claim7 := { stood := { row := choiceRoundsRow, standIns := [], harness := (true, "6ef71f8c02f1c71461c29320a1248e4af36b8a63e46ca61e53458e415f3eb3d6"), looks := true }, kinds := [], alts := [], laidByText := true, laidKinds := [.data, .data, .data, .sentinel, .sentinel], laidTests := true, laidLooks := .later }
def ChoiceRoundsCardSaid : Prop := Claim7.holds Tryd.pinned (.plain (OpenSpec.ofChange choiceRoundsSpec)) choiceRoundsCard

/-- THE TIED CARD OF 'tidewaiterlaw20.ChoiceBack'. -/
def choiceBackCard : Claim7 := { stood := { row := choiceBackRow, standIns := [], harness := (true, "6ef71f8c02f1c71461c29320a1248e4af36b8a63e46ca61e53458e415f3eb3d6"), looks := true }, kinds := [], alts := [], laidByText := true, laidKinds := [.data, .data, .data, .sentinel, .sentinel], laidTests := true, laidLooks := .later }
def ChoiceBackCardSaid : Prop := Claim7.holds Tryd.pinned (.plain (OpenSpec.ofChange choiceBackSpec)) choiceBackCard

/-- THE TIED CARD OF 'tidewaiterlaw19.ConfigChecks'. -/
def configChecksCard : Claim7 := { stood := { row := configChecksRow, standIns := [], harness := (true, "6ef71f8c02f1c71461c29320a1248e4af36b8a63e46ca61e53458e415f3eb3d6"), looks := true }, kinds := [], alts := [], laidByText := true, laidKinds := [.data, .data, .data, .data, .sentinel, .sentinel, .pinned], laidTests := true, laidLooks := .later }
def ConfigChecksCardSaid : Prop := Claim7.holds Tryd.pinned (.plain (OpenSpec.ofChange configChecksSpec)) configChecksCard

/-- THE TIED CARD OF 'tidewaiterlaw19.ConfigParses'. -/
def configParsesCard : Claim7 := { stood := { row := configParsesRow, standIns := [], harness := (true, "6ef71f8c02f1c71461c29320a1248e4af36b8a63e46ca61e53458e415f3eb3d6"), looks := true }, kinds := [], alts := [], laidByText := true, laidKinds := [.data, .data, .data, .data, .sentinel, .sentinel, .pinned], laidTests := true, laidLooks := .later }
def ConfigParsesCardSaid : Prop := Claim7.holds Tryd.pinned (.plain (OpenSpec.ofChange configParsesSpec)) configParsesCard

/-- THE TIED CARD OF 'tidewaiterlaw19.ConfigNumbers'. -/
def configNumbersCard : Claim7 := { stood := { row := configNumbersRow, standIns := [], harness := (true, "6ef71f8c02f1c71461c29320a1248e4af36b8a63e46ca61e53458e415f3eb3d6"), looks := true }, kinds := [], alts := [], laidByText := true, laidKinds := [.data, .data, .data, .data, .sentinel, .sentinel, .pinned], laidTests := true, laidLooks := .later }
def ConfigNumbersCardSaid : Prop := Claim7.holds Tryd.pinned (.plain (OpenSpec.ofChange configNumbersSpec)) configNumbersCard

/-- THE TIED CARD OF 'tidewaiterlaw19.ConfigBack'. -/
def configBackCard : Claim7 := { stood := { row := configBackRow, standIns := [], harness := (true, "6ef71f8c02f1c71461c29320a1248e4af36b8a63e46ca61e53458e415f3eb3d6"), looks := true }, kinds := [], alts := [], laidByText := true, laidKinds := [.data, .data, .data, .data, .sentinel, .sentinel, .pinned], laidTests := true, laidLooks := .later }
def ConfigBackCardSaid : Prop := Claim7.holds Tryd.pinned (.plain (OpenSpec.ofChange configBackSpec)) configBackCard

/-- THE TIED CARD OF 'tidewaitertop.WholeSigns'. -/
def wholeSignsCard : Claim7 := { stood := { row := wholeSignsRow, standIns := [], harness := (true, "6ef71f8c02f1c71461c29320a1248e4af36b8a63e46ca61e53458e415f3eb3d6"), looks := true }, kinds := [], alts := [], laidByText := true, laidKinds := [.data, .data, .data, .data, .sentinel, .sentinel, .pinned], laidTests := true, laidLooks := .later }
def WholeSignsCardSaid : Prop := Claim7.holds Tryd.pinned (.plain (OpenSpec.ofChange wholeSignsSpec)) wholeSignsCard

/-- THE TIED CARD OF 'tidewaitertop.WholeWords'. -/
def wholeWordsCard : Claim7 := { stood := { row := wholeWordsRow, standIns := [], harness := (true, "6ef71f8c02f1c71461c29320a1248e4af36b8a63e46ca61e53458e415f3eb3d6"), looks := true }, kinds := [], alts := [], laidByText := true, laidKinds := [.data, .data, .data, .data, .sentinel, .sentinel, .pinned], laidTests := true, laidLooks := .later }
def WholeWordsCardSaid : Prop := Claim7.holds Tryd.pinned (.plain (OpenSpec.ofChange wholeWordsSpec)) wholeWordsCard

/-- THE SECOND FORM's CARD OF 'tidewaiterlaw04.QuoteBack'. -/
def quoteBackUptoCard : Claim7 := { stood := { row := quoteBackUptoRow, standIns := [], harness := (true, "6ef71f8c02f1c71461c29320a1248e4af36b8a63e46ca61e53458e415f3eb3d6"), looks := true }, kinds := [], alts := [], laidByText := true, laidKinds := [.data, .data, .data, .data, .sentinel, .sentinel, .pinned], laidTests := true, laidLooks := .later }
def QuoteBackUptoCardSaid : Prop := Claim7.holds Tryd.pinned (.plain (OpenSpec.upto quoteBackSpec)) quoteBackUptoCard

/-- THE SECOND FORM's CARD OF 'tidewaiterlaw04.QuoteOne'. -/
def quoteOneUptoCard : Claim7 := { stood := { row := quoteOneUptoRow, standIns := [], harness := (true, "6ef71f8c02f1c71461c29320a1248e4af36b8a63e46ca61e53458e415f3eb3d6"), looks := true }, kinds := [], alts := [], laidByText := true, laidKinds := [.data, .data, .data, .data, .sentinel, .sentinel, .pinned], laidTests := true, laidLooks := .later }
def QuoteOneUptoCardSaid : Prop := Claim7.holds Tryd.pinned (.plain (OpenSpec.upto quoteOneSpec)) quoteOneUptoCard

/-- THE SECOND FORM's CARD OF 'tidewaiterlaw04.QuoteSigns'. -/
def quoteSignsUptoCard : Claim7 := { stood := { row := quoteSignsUptoRow, standIns := [], harness := (true, "6ef71f8c02f1c71461c29320a1248e4af36b8a63e46ca61e53458e415f3eb3d6"), looks := true }, kinds := [], alts := [], laidByText := true, laidKinds := [.data, .data, .data, .data, .sentinel, .sentinel, .pinned], laidTests := true, laidLooks := .later }
def QuoteSignsUptoCardSaid : Prop := Claim7.holds Tryd.pinned (.plain (OpenSpec.upto quoteSignsSpec)) quoteSignsUptoCard

/-- THE SECOND FORM's CARD OF 'tidewaiterlaw20.ChoiceReads'. -/
def choiceReadsUptoCard : Claim7 := { stood := { row := choiceReadsUptoRow, standIns := [], harness := (true, "6ef71f8c02f1c71461c29320a1248e4af36b8a63e46ca61e53458e415f3eb3d6"), looks := true }, kinds := [], alts := [], laidByText := true, laidKinds := [.data, .data, .data, .sentinel, .sentinel], laidTests := true, laidLooks := .later }
def ChoiceReadsUptoCardSaid : Prop := Claim7.holds Tryd.pinned (.plain (OpenSpec.upto choiceReadsSpec)) choiceReadsUptoCard

/-- THE SECOND FORM's CARD OF 'tidewaiterlaw20.ChoiceRounds'. -/
def choiceRoundsUptoCard : Claim7 := { stood := { row := choiceRoundsUptoRow, standIns := [], harness := (true, "6ef71f8c02f1c71461c29320a1248e4af36b8a63e46ca61e53458e415f3eb3d6"), looks := true }, kinds := [], alts := [], laidByText := true, laidKinds := [.data, .data, .data, .sentinel, .sentinel], laidTests := true, laidLooks := .later }
def ChoiceRoundsUptoCardSaid : Prop := Claim7.holds Tryd.pinned (.plain (OpenSpec.upto choiceRoundsSpec)) choiceRoundsUptoCard

/-- THE SECOND FORM's CARD OF 'tidewaiterlaw20.ChoiceBack'. -/
def choiceBackUptoCard : Claim7 := { stood := { row := choiceBackUptoRow, standIns := [], harness := (true, "6ef71f8c02f1c71461c29320a1248e4af36b8a63e46ca61e53458e415f3eb3d6"), looks := true }, kinds := [], alts := [], laidByText := true, laidKinds := [.data, .data, .data, .sentinel, .sentinel], laidTests := true, laidLooks := .later }
def ChoiceBackUptoCardSaid : Prop := Claim7.holds Tryd.pinned (.plain (OpenSpec.upto choiceBackSpec)) choiceBackUptoCard

/-- THE SECOND FORM's CARD OF 'tidewaiterlaw19.ConfigChecks'. -/
def configChecksUptoCard : Claim7 := { stood := { row := configChecksUptoRow, standIns := [], harness := (true, "6ef71f8c02f1c71461c29320a1248e4af36b8a63e46ca61e53458e415f3eb3d6"), looks := true }, kinds := [], alts := [], laidByText := true, laidKinds := [.data, .data, .data, .data, .sentinel, .sentinel, .pinned], laidTests := true, laidLooks := .later }
def ConfigChecksUptoCardSaid : Prop := Claim7.holds Tryd.pinned (.plain (OpenSpec.upto configChecksSpec)) configChecksUptoCard

/-- THE SECOND FORM's CARD OF 'tidewaiterlaw19.ConfigParses'. -/
def configParsesUptoCard : Claim7 := { stood := { row := configParsesUptoRow, standIns := [], harness := (true, "6ef71f8c02f1c71461c29320a1248e4af36b8a63e46ca61e53458e415f3eb3d6"), looks := true }, kinds := [], alts := [], laidByText := true, laidKinds := [.data, .data, .data, .data, .sentinel, .sentinel, .pinned], laidTests := true, laidLooks := .later }
def ConfigParsesUptoCardSaid : Prop := Claim7.holds Tryd.pinned (.plain (OpenSpec.upto configParsesSpec)) configParsesUptoCard

/-- THE SECOND FORM's CARD OF 'tidewaiterlaw19.ConfigNumbers'. -/
def configNumbersUptoCard : Claim7 := { stood := { row := configNumbersUptoRow, standIns := [], harness := (true, "6ef71f8c02f1c71461c29320a1248e4af36b8a63e46ca61e53458e415f3eb3d6"), looks := true }, kinds := [], alts := [], laidByText := true, laidKinds := [.data, .data, .data, .data, .sentinel, .sentinel, .pinned], laidTests := true, laidLooks := .later }
def ConfigNumbersUptoCardSaid : Prop := Claim7.holds Tryd.pinned (.plain (OpenSpec.upto configNumbersSpec)) configNumbersUptoCard

/-- THE SECOND FORM's CARD OF 'tidewaiterlaw19.ConfigBack'. -/
def configBackUptoCard : Claim7 := { stood := { row := configBackUptoRow, standIns := [], harness := (true, "6ef71f8c02f1c71461c29320a1248e4af36b8a63e46ca61e53458e415f3eb3d6"), looks := true }, kinds := [], alts := [], laidByText := true, laidKinds := [.data, .data, .data, .data, .sentinel, .sentinel, .pinned], laidTests := true, laidLooks := .later }
def ConfigBackUptoCardSaid : Prop := Claim7.holds Tryd.pinned (.plain (OpenSpec.upto configBackSpec)) configBackUptoCard

/-- THE SECOND FORM's CARD OF 'tidewaitertop.WholeSigns'. -/
def wholeSignsUptoCard : Claim7 := { stood := { row := wholeSignsUptoRow, standIns := [], harness := (true, "6ef71f8c02f1c71461c29320a1248e4af36b8a63e46ca61e53458e415f3eb3d6"), looks := true }, kinds := [], alts := [], laidByText := true, laidKinds := [.data, .data, .data, .data, .sentinel, .sentinel, .pinned], laidTests := true, laidLooks := .later }
def WholeSignsUptoCardSaid : Prop := Claim7.holds Tryd.pinned (.plain (OpenSpec.upto wholeSignsSpec)) wholeSignsUptoCard

/-- THE SECOND FORM's CARD OF 'tidewaitertop.WholeWords'. -/
def wholeWordsUptoCard : Claim7 := { stood := { row := wholeWordsUptoRow, standIns := [], harness := (true, "6ef71f8c02f1c71461c29320a1248e4af36b8a63e46ca61e53458e415f3eb3d6"), looks := true }, kinds := [], alts := [], laidByText := true, laidKinds := [.data, .data, .data, .data, .sentinel, .sentinel, .pinned], laidTests := true, laidLooks := .later }
def WholeWordsUptoCardSaid : Prop := Claim7.holds Tryd.pinned (.plain (OpenSpec.upto wholeWordsSpec)) wholeWordsUptoCard
end Rows
end Go.Proofs.YthdblloiapadkaaDoor
