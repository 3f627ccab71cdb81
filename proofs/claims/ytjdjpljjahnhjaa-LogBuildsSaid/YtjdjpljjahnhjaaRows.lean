/-
  No cell of these rows narrows 'for every input' (looked for: loops, veiled, ifaces, maps, wideKeys, modest, calm, conditions, laid).
  DERIVED. THE GIVEN ROWS OF THIS SEAT. 9 by the template 'for every input the law returns true; each argument reads behind the call as it read before'; 0 by the template 'total and deterministic' (their statements: YtjdjpljjahnhjaaTotals.lean).
  GIVEN WITH THE SEED: the statements are not yours to turn. If you find one false, say at which input.
  Laid BY PROGRAM, IN A SANDBOX (cutbox-rows.mjs): the forced cells as the released guide's own fill.sh prints them over the translation a258e0b2be2f6c7d… (all of the seat's roots in one cut). By AI agents, Wed Nov 11 2026. No macro, syntax, notation, axiom, sorry.
-/
import Derived.Test.YtjdjpljjahnhjaaChecked
import GoSem.Claim
import GoSem.ClaimJoined
import GoSem.ClaimMapViews
import Derived.JoinedTies
import Derived.KernelRfl
namespace Go.Proofs.Ytjdjpljjahnhjaa
/- THE CELL 'sum', in the pinned program and in every row, IS THE sha256 OF THE DUMP (.gsa) THAT YtjdjpljjahnhjaaProg.lean LOADS. Nothing in Lean hashes anything: it is a label: what it is worth is what the hold of that sum in a sandbox is worth. -/
noncomputable def Try.pinned : Pinned := { name := "ytjdjpljjahnhjaa", sum := "a258e0b2be2f6c7dc0b1c5928e93650fb7d0bc13663976785cc33db36a5f0e0c", checked := Try.checked }
namespace Rows
def none {H : Type} : Left H := { results := [], args := [] }

/-- 'tidewaiterlaw02.VarintPuts': WHATEVER THE INPUT: true; the input reads as it did. -/
def varintPutsSpec : ChangeSpec := { name := "varintPuts", fn := fun _ => fun
  | [d1, d2, d3] => { results := [.lit (.bool true)], args := [d1, d2, d3] }
  | _ => none }
def varintPutsRow : OpenClaim := { program := "ytjdjpljjahnhjaa", sum := "a258e0b2be2f6c7dc0b1c5928e93650fb7d0bc13663976785cc33db36a5f0e0c", func := "tidewaiter/tidewaiterlaw02.VarintPuts", spec := "varintPuts", apart := false }
def VarintPutsSaid : Prop := varintPutsRow.holds Try.pinned (OpenSpec.ofChange varintPutsSpec)

/-- ITS FALSE NEIGHBOUR: 'it returns false'. Refute it at one input. -/
def varintPutsWrong : ChangeSpec := { name := "varintPuts", fn := fun _ => fun
  | [d1, d2, d3] => { results := [.lit (.bool false)], args := [d1, d2, d3] }
  | _ => none }
def VarintPutsWrongFalsely : Prop := varintPutsRow.holds Try.pinned (OpenSpec.ofChange varintPutsWrong)

/-- 'tidewaiterlaw05.FrameEncodes': WHATEVER THE INPUT: true; the input reads as it did. -/
def frameEncodesSpec : ChangeSpec := { name := "frameEncodes", fn := fun _ => fun
  | [d1, d2] => { results := [.lit (.bool true)], args := [d1, d2] }
  | _ => none }
def frameEncodesRow : OpenClaim := { program := "ytjdjpljjahnhjaa", sum := "a258e0b2be2f6c7dc0b1c5928e93650fb7d0bc13663976785cc33db36a5f0e0c", func := "tidewaiter/tidewaiterlaw05.FrameEncodes", spec := "frameEncodes", apart := false }
def FrameEncodesSaid : Prop := frameEncodesRow.holds Try.pinned (OpenSpec.ofChange frameEncodesSpec)

/-- ITS FALSE NEIGHBOUR: 'it returns false'. Refute it at one input. -/
def frameEncodesWrong : ChangeSpec := { name := "frameEncodes", fn := fun _ => fun
  | [d1, d2] => { results := [.lit (.bool false)], args := [d1, d2] }
  | _ => none }
def FrameEncodesWrongFalsely : Prop := frameEncodesRow.holds Try.pinned (OpenSpec.ofChange frameEncodesWrong)

/-- 'tidewaiterlaw05.FrameGets': WHATEVER THE INPUT: true; the input reads as it did. -/
def frameGetsSpec : ChangeSpec := { name := "frameGets", fn := fun _ => fun
  | [d] => { results := [.lit (.bool true)], args := [d] }
  | _ => none }
def frameGetsRow : OpenClaim := { program := "ytjdjpljjahnhjaa", sum := "a258e0b2be2f6c7dc0b1c5928e93650fb7d0bc13663976785cc33db36a5f0e0c", func := "tidewaiter/tidewaiterlaw05.FrameGets", spec := "frameGets", apart := false }
def FrameGetsSaid : Prop := frameGetsRow.holds Try.pinned (OpenSpec.ofChange frameGetsSpec)

/-- ITS FALSE NEIGHBOUR: 'it returns false'. Refute it at one input. -/
def frameGetsWrong : ChangeSpec := { name := "frameGets", fn := fun _ => fun
  | [d] => { results := [.lit (.bool false)], args := [d] }
  | _ => none }
def FrameGetsWrongFalsely : Prop := frameGetsRow.holds Try.pinned (OpenSpec.ofChange frameGetsWrong)

/-- 'tidewaiterlaw05.FrameLong': WHATEVER THE INPUT: true; the input reads as it did. -/
def frameLongSpec : ChangeSpec := { name := "frameLong", fn := fun _ => fun
  | [d1, d2, d3] => { results := [.lit (.bool true)], args := [d1, d2, d3] }
  | _ => none }
def frameLongRow : OpenClaim := { program := "ytjdjpljjahnhjaa", sum := "a258e0b2be2f6c7dc0b1c5928e93650fb7d0bc13663976785cc33db36a5f0e0c", func := "tidewaiter/tidewaiterlaw05.FrameLong", spec := "frameLong", apart := false }
def FrameLongSaid : Prop := frameLongRow.holds Try.pinned (OpenSpec.ofChange frameLongSpec)

/-- ITS FALSE NEIGHBOUR: 'it returns false'. Refute it at one input. -/
def frameLongWrong : ChangeSpec := { name := "frameLong", fn := fun _ => fun
  | [d1, d2, d3] => { results := [.lit (.bool false)], args := [d1, d2, d3] }
  | _ => none }
def FrameLongWrongFalsely : Prop := frameLongRow.holds Try.pinned (OpenSpec.ofChange frameLongWrong)

/-- 'tidewaiterlaw06.LogParses': WHATEVER THE INPUT: true; the input reads as it did. -/
def logParsesSpec : ChangeSpec := { name := "logParses", fn := fun _ => fun
  | [d] => { results := [.lit (.bool true)], args := [d] }
  | _ => none }
def logParsesRow : OpenClaim := { program := "ytjdjpljjahnhjaa", sum := "a258e0b2be2f6c7dc0b1c5928e93650fb7d0bc13663976785cc33db36a5f0e0c", func := "tidewaiter/tidewaiterlaw06.LogParses", spec := "logParses", inPlace := ["internal/abi.NoEscape"], apart := false }
def LogParsesSaid : Prop := logParsesRow.holds Try.pinned (OpenSpec.ofChange logParsesSpec)

/-- ITS FALSE NEIGHBOUR: 'it returns false'. Refute it at one input. -/
def logParsesWrong : ChangeSpec := { name := "logParses", fn := fun _ => fun
  | [d] => { results := [.lit (.bool false)], args := [d] }
  | _ => none }
def LogParsesWrongFalsely : Prop := logParsesRow.holds Try.pinned (OpenSpec.ofChange logParsesWrong)

/-- 'tidewaiterlaw06.LogBuilds': WHATEVER THE INPUT: true; the input reads as it did. -/
def logBuildsSpec : ChangeSpec := { name := "logBuilds", fn := fun _ => fun
  | [d1, d2] => { results := [.lit (.bool true)], args := [d1, d2] }
  | _ => none }
def logBuildsRow : OpenClaim := { program := "ytjdjpljjahnhjaa", sum := "a258e0b2be2f6c7dc0b1c5928e93650fb7d0bc13663976785cc33db36a5f0e0c", func := "tidewaiter/tidewaiterlaw06.LogBuilds", spec := "logBuilds", inPlace := ["internal/abi.NoEscape"], apart := false }
def LogBuildsSaid : Prop := logBuildsRow.holds Try.pinned (OpenSpec.ofChange logBuildsSpec)

/-- ITS FALSE NEIGHBOUR: 'it returns false'. Refute it at one input. -/
def logBuildsWrong : ChangeSpec := { name := "logBuilds", fn := fun _ => fun
  | [d1, d2] => { results := [.lit (.bool false)], args := [d1, d2] }
  | _ => none }
def LogBuildsWrongFalsely : Prop := logBuildsRow.holds Try.pinned (OpenSpec.ofChange logBuildsWrong)

/-- 'tidewaitertop.WholeLogs': WHATEVER THE INPUT: true; the input reads as it did. -/
def wholeLogsSpec : ChangeSpec := { name := "wholeLogs", fn := fun _ => fun
  | [d1, d2] => { results := [.lit (.bool true)], args := [d1, d2] }
  | _ => none }
def wholeLogsRow : OpenClaim := { program := "ytjdjpljjahnhjaa", sum := "a258e0b2be2f6c7dc0b1c5928e93650fb7d0bc13663976785cc33db36a5f0e0c", func := "tidewaiter/tidewaitertop.WholeLogs", spec := "wholeLogs", inPlace := ["internal/abi.NoEscape"], apart := false }
def WholeLogsSaid : Prop := wholeLogsRow.holds Try.pinned (OpenSpec.ofChange wholeLogsSpec)

/-- ITS FALSE NEIGHBOUR: 'it returns false'. Refute it at one input. -/
def wholeLogsWrong : ChangeSpec := { name := "wholeLogs", fn := fun _ => fun
  | [d1, d2] => { results := [.lit (.bool false)], args := [d1, d2] }
  | _ => none }
def WholeLogsWrongFalsely : Prop := wholeLogsRow.holds Try.pinned (OpenSpec.ofChange wholeLogsWrong)

/-- 'tidewaiterlaw21.CursorGoes': WHATEVER THE INPUT: true; the input reads as it did. -/
def cursorGoesSpec : ChangeSpec := { name := "cursorGoes", fn := fun _ => fun
  | [d] => { results := [.lit (.bool true)], args := [d] }
  | _ => none }
def cursorGoesRow : OpenClaim := { program := "ytjdjpljjahnhjaa", sum := "a258e0b2be2f6c7dc0b1c5928e93650fb7d0bc13663976785cc33db36a5f0e0c", func := "tidewaiter/tidewaiterlaw21.CursorGoes", spec := "cursorGoes", unfollowed := true, recurses := true, apart := false }
def CursorGoesSaid : Prop := cursorGoesRow.holds Try.pinned (OpenSpec.ofChange cursorGoesSpec)

/-- ITS FALSE NEIGHBOUR: 'it returns false'. Refute it at one input. -/
def cursorGoesWrong : ChangeSpec := { name := "cursorGoes", fn := fun _ => fun
  | [d] => { results := [.lit (.bool false)], args := [d] }
  | _ => none }
def CursorGoesWrongFalsely : Prop := cursorGoesRow.holds Try.pinned (OpenSpec.ofChange cursorGoesWrong)

/-- 'tidewaiterlaw21.CursorKnows': WHATEVER THE INPUT: true; the input reads as it did. -/
def cursorKnowsSpec : ChangeSpec := { name := "cursorKnows", fn := fun _ => fun
  | [d1, d2] => { results := [.lit (.bool true)], args := [d1, d2] }
  | _ => none }
def cursorKnowsRow : OpenClaim := { program := "ytjdjpljjahnhjaa", sum := "a258e0b2be2f6c7dc0b1c5928e93650fb7d0bc13663976785cc33db36a5f0e0c", func := "tidewaiter/tidewaiterlaw21.CursorKnows", spec := "cursorKnows", unfollowed := true, recurses := true, apart := false }
def CursorKnowsSaid : Prop := cursorKnowsRow.holds Try.pinned (OpenSpec.ofChange cursorKnowsSpec)

/-- ITS FALSE NEIGHBOUR: 'it returns false'. Refute it at one input. -/
def cursorKnowsWrong : ChangeSpec := { name := "cursorKnows", fn := fun _ => fun
  | [d1, d2] => { results := [.lit (.bool false)], args := [d1, d2] }
  | _ => none }
def CursorKnowsWrongFalsely : Prop := cursorKnowsRow.holds Try.pinned (OpenSpec.ofChange cursorKnowsWrong)

/- THE SECOND FORM. 'bulk': how many values and letters a reading holds, each counted each time it is reached (what is shared counts as often as it is met; a slice's spare places count too). A statement '..UptoSaid' is the law's where the arguments, and the package variables that the reading takes, are together of bulk at most 1048576: NARROWER than '..Said'. Prove '..Said' where nothing that the law and all that it calls make is longer than what came in: it says more and counts as full. Else prove '..UptoSaid'. A law counts once. -/
mutual
def uptoBulk {H : Type} : DataW H → Nat
  | .lit (.string bytes) => bytes.length + 1
  | .lit _ => 1
  | .nil => 1
  | .ptr d => uptoBulk d + 1
  | .slice elems spare => uptoBulkAll elems + uptoBulkAll spare + 1
  | .agg parts => uptoBulkAll parts + 1
  | .iface _ d => uptoBulk d + 1
  | .map entries => uptoBulkEntries entries + 1
  | .held _ => 1
def uptoBulkAll {H : Type} : List (DataW H) → Nat
  | [] => 0
  | d :: r => uptoBulk d + uptoBulkAll r
def uptoBulkEntries {H : Type} : List (Lit × DataW H) → Nat
  | [] => 0
  | x :: r => uptoBulkEntry x + uptoBulkEntries r
def uptoBulkEntry {H : Type} : Lit × DataW H → Nat
  | (.string bytes, d) => bytes.length + uptoBulk d + 1
  | (_, d) => uptoBulk d + 1
 end
def uptoSmall : (H : Type) → List (DataW H) → Bool := fun _ ds => decide (uptoBulkAll ds ≤ 1048576)
def OpenSpec.upto (s : _root_.Go.ChangeSpec) : _root_.Go.OpenSpec := { _root_.Go.OpenSpec.ofChange s with cond := some uptoSmall }

/-- 'tidewaiterlaw02.VarintPuts', WHERE WHAT IT READS IS OF BULK AT MOST 1048576: true; the input reads as it did. -/
def varintPutsUptoRow : OpenClaim := { program := "ytjdjpljjahnhjaa", sum := "a258e0b2be2f6c7dc0b1c5928e93650fb7d0bc13663976785cc33db36a5f0e0c", func := "tidewaiter/tidewaiterlaw02.VarintPuts", spec := "varintPuts", apart := false, narrowed := true }
def VarintPutsUptoSaid : Prop := varintPutsUptoRow.holds Try.pinned (OpenSpec.upto varintPutsSpec)

/-- 'tidewaiterlaw05.FrameEncodes', WHERE WHAT IT READS IS OF BULK AT MOST 1048576: true; the input reads as it did. -/
def frameEncodesUptoRow : OpenClaim := { program := "ytjdjpljjahnhjaa", sum := "a258e0b2be2f6c7dc0b1c5928e93650fb7d0bc13663976785cc33db36a5f0e0c", func := "tidewaiter/tidewaiterlaw05.FrameEncodes", spec := "frameEncodes", apart := false, narrowed := true }
def FrameEncodesUptoSaid : Prop := frameEncodesUptoRow.holds Try.pinned (OpenSpec.upto frameEncodesSpec)

/-- 'tidewaiterlaw05.FrameGets', WHERE WHAT IT READS IS OF BULK AT MOST 1048576: true; the input reads as it did. -/
def frameGetsUptoRow : OpenClaim := { program := "ytjdjpljjahnhjaa", sum := "a258e0b2be2f6c7dc0b1c5928e93650fb7d0bc13663976785cc33db36a5f0e0c", func := "tidewaiter/tidewaiterlaw05.FrameGets", spec := "frameGets", apart := false, narrowed := true }
def FrameGetsUptoSaid : Prop := frameGetsUptoRow.holds Try.pinned (OpenSpec.upto frameGetsSpec)

/-- 'tidewaiterlaw05.FrameLong', WHERE WHAT IT READS IS OF BULK AT MOST 1048576: true; the input reads as it did. -/
def frameLongUptoRow : OpenClaim := { program := "ytjdjpljjahnhjaa", sum := "a258e0b2be2f6c7dc0b1c5928e93650fb7d0bc13663976785cc33db36a5f0e0c", func := "tidewaiter/tidewaiterlaw05.FrameLong", spec := "frameLong", apart := false, narrowed := true }
def FrameLongUptoSaid : Prop := frameLongUptoRow.holds Try.pinned (OpenSpec.upto frameLongSpec)

/-- 'tidewaiterlaw06.LogParses', WHERE WHAT IT READS IS OF BULK AT MOST 1048576: true; the input reads as it did. -/
def logParsesUptoRow : OpenClaim := { program := "ytjdjpljjahnhjaa", sum := "a258e0b2be2f6c7dc0b1c5928e93650fb7d0bc13663976785cc33db36a5f0e0c", func := "tidewaiter/tidewaiterlaw06.LogParses", spec := "logParses", inPlace := ["internal/abi.NoEscape"], apart := false, narrowed := true }
def LogParsesUptoSaid : Prop := logParsesUptoRow.holds Try.pinned (OpenSpec.upto logParsesSpec)

/-- 'tidewaiterlaw06.LogBuilds', WHERE WHAT IT READS IS OF BULK AT MOST 1048576: true; the input reads as it did. -/
def logBuildsUptoRow : OpenClaim := { program := "ytjdjpljjahnhjaa", sum := "a258e0b2be2f6c7dc0b1c5928e93650fb7d0bc13663976785cc33db36a5f0e0c", func := "tidewaiter/tidewaiterlaw06.LogBuilds", spec := "logBuilds", inPlace := ["internal/abi.NoEscape"], apart := false, narrowed := true }
def LogBuildsUptoSaid : Prop := logBuildsUptoRow.holds Try.pinned (OpenSpec.upto logBuildsSpec)

/-- 'tidewaitertop.WholeLogs', WHERE WHAT IT READS IS OF BULK AT MOST 1048576: true; the input reads as it did. -/
def wholeLogsUptoRow : OpenClaim := { program := "ytjdjpljjahnhjaa", sum := "a258e0b2be2f6c7dc0b1c5928e93650fb7d0bc13663976785cc33db36a5f0e0c", func := "tidewaiter/tidewaitertop.WholeLogs", spec := "wholeLogs", inPlace := ["internal/abi.NoEscape"], apart := false, narrowed := true }
def WholeLogsUptoSaid : Prop := wholeLogsUptoRow.holds Try.pinned (OpenSpec.upto wholeLogsSpec)

/-- 'tidewaiterlaw21.CursorGoes', WHERE WHAT IT READS IS OF BULK AT MOST 1048576: true; the input reads as it did. -/
def cursorGoesUptoRow : OpenClaim := { program := "ytjdjpljjahnhjaa", sum := "a258e0b2be2f6c7dc0b1c5928e93650fb7d0bc13663976785cc33db36a5f0e0c", func := "tidewaiter/tidewaiterlaw21.CursorGoes", spec := "cursorGoes", unfollowed := true, recurses := true, apart := false, narrowed := true }
def CursorGoesUptoSaid : Prop := cursorGoesUptoRow.holds Try.pinned (OpenSpec.upto cursorGoesSpec)

/-- 'tidewaiterlaw21.CursorKnows', WHERE WHAT IT READS IS OF BULK AT MOST 1048576: true; the input reads as it did. -/
def cursorKnowsUptoRow : OpenClaim := { program := "ytjdjpljjahnhjaa", sum := "a258e0b2be2f6c7dc0b1c5928e93650fb7d0bc13663976785cc33db36a5f0e0c", func := "tidewaiter/tidewaiterlaw21.CursorKnows", spec := "cursorKnows", unfollowed := true, recurses := true, apart := false, narrowed := true }
def CursorKnowsUptoSaid : Prop := cursorKnowsUptoRow.holds Try.pinned (OpenSpec.upto cursorKnowsSpec)

end Rows
end Go.Proofs.Ytjdjpljjahnhjaa
