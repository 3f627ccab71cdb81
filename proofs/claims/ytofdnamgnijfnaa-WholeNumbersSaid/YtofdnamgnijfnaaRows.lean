/-
  No cell of these rows narrows 'for every input' (looked for: loops, veiled, ifaces, maps, wideKeys, modest, calm, conditions, laid).
  DERIVED. THE GIVEN ROWS OF THIS SEAT. 12 by the template 'for every input the law returns true; each argument reads behind the call as it read before'; 0 by the template 'total and deterministic' (their statements: YtofdnamgnijfnaaTotals.lean).
  GIVEN WITH THE SEED: the statements are not yours to turn. If you find one false, say at which input.
  Laid BY PROGRAM, IN A SANDBOX (cutbox-rows.mjs): the forced cells as the released guide's own fill.sh prints them over the translation 1a60feda0df139d6… (all of the seat's roots in one cut). By AI agents, Wed Nov 11 2026. No macro, syntax, notation, axiom, sorry.
-/
import Derived.Test.YtofdnamgnijfnaaChecked
import GoSem.Claim
import GoSem.ClaimJoined
import GoSem.ClaimMapViews
import Derived.JoinedTies
import Derived.KernelRfl
namespace Go.Proofs.Ytofdnamgnijfnaa
/- THE CELL 'sum', in the pinned program and in every row, IS THE sha256 OF THE DUMP (.gsa) THAT YtofdnamgnijfnaaProg.lean LOADS. Nothing in Lean hashes anything: it is a label: what it is worth is what the hold of that sum in a sandbox is worth. -/
noncomputable def Try.pinned : Pinned := { name := "ytofdnamgnijfnaa", sum := "1a60feda0df139d6208c072525abc87b244916a61f43a4e2782ef1942e150447", checked := Try.checked }
namespace Rows
def none {H : Type} : Left H := { results := [], args := [] }

/-- 'tidewaiterlaw03.CrcSums': WHATEVER THE INPUT: true; the input reads as it did. -/
def crcSumsSpec : ChangeSpec := { name := "crcSums", fn := fun _ => fun
  | [d] => { results := [.lit (.bool true)], args := [d] }
  | _ => none }
def crcSumsRow : OpenClaim := { program := "ytofdnamgnijfnaa", sum := "1a60feda0df139d6208c072525abc87b244916a61f43a4e2782ef1942e150447", func := "tidewaiter/tidewaiterlaw03.CrcSums", spec := "crcSums", apart := false }
def CrcSumsSaid : Prop := crcSumsRow.holds Try.pinned (OpenSpec.ofChange crcSumsSpec)

/-- ITS FALSE NEIGHBOUR: 'it returns false'. Refute it at one input. -/
def crcSumsWrong : ChangeSpec := { name := "crcSums", fn := fun _ => fun
  | [d] => { results := [.lit (.bool false)], args := [d] }
  | _ => none }
def CrcSumsWrongFalsely : Prop := crcSumsRow.holds Try.pinned (OpenSpec.ofChange crcSumsWrong)

/-- 'tidewaiterlaw03.CrcOpens': WHATEVER THE INPUT: true; the input reads as it did. -/
def crcOpensSpec : ChangeSpec := { name := "crcOpens", fn := fun _ => fun
  | [d] => { results := [.lit (.bool true)], args := [d] }
  | _ => none }
def crcOpensRow : OpenClaim := { program := "ytofdnamgnijfnaa", sum := "1a60feda0df139d6208c072525abc87b244916a61f43a4e2782ef1942e150447", func := "tidewaiter/tidewaiterlaw03.CrcOpens", spec := "crcOpens", apart := false }
def CrcOpensSaid : Prop := crcOpensRow.holds Try.pinned (OpenSpec.ofChange crcOpensSpec)

/-- ITS FALSE NEIGHBOUR: 'it returns false'. Refute it at one input. -/
def crcOpensWrong : ChangeSpec := { name := "crcOpens", fn := fun _ => fun
  | [d] => { results := [.lit (.bool false)], args := [d] }
  | _ => none }
def CrcOpensWrongFalsely : Prop := crcOpensRow.holds Try.pinned (OpenSpec.ofChange crcOpensWrong)

/-- 'tidewaiterlaw03.CrcBursts': WHATEVER THE INPUT: true; the input reads as it did. -/
def crcBurstsSpec : ChangeSpec := { name := "crcBursts", fn := fun _ => fun
  | [d1, d2, d3] => { results := [.lit (.bool true)], args := [d1, d2, d3] }
  | _ => none }
def crcBurstsRow : OpenClaim := { program := "ytofdnamgnijfnaa", sum := "1a60feda0df139d6208c072525abc87b244916a61f43a4e2782ef1942e150447", func := "tidewaiter/tidewaiterlaw03.CrcBursts", spec := "crcBursts", apart := false }
def CrcBurstsSaid : Prop := crcBurstsRow.holds Try.pinned (OpenSpec.ofChange crcBurstsSpec)

/-- ITS FALSE NEIGHBOUR: 'it returns false'. Refute it at one input. -/
def crcBurstsWrong : ChangeSpec := { name := "crcBursts", fn := fun _ => fun
  | [d1, d2, d3] => { results := [.lit (.bool false)], args := [d1, d2, d3] }
  | _ => none }
def CrcBurstsWrongFalsely : Prop := crcBurstsRow.holds Try.pinned (OpenSpec.ofChange crcBurstsWrong)

/-- 'tidewaiterlaw02.VarintGets': WHATEVER THE INPUT: true; the input reads as it did. -/
def varintGetsSpec : ChangeSpec := { name := "varintGets", fn := fun _ => fun
  | [d] => { results := [.lit (.bool true)], args := [d] }
  | _ => none }
def varintGetsRow : OpenClaim := { program := "ytofdnamgnijfnaa", sum := "1a60feda0df139d6208c072525abc87b244916a61f43a4e2782ef1942e150447", func := "tidewaiter/tidewaiterlaw02.VarintGets", spec := "varintGets", apart := false }
def VarintGetsSaid : Prop := varintGetsRow.holds Try.pinned (OpenSpec.ofChange varintGetsSpec)

/-- ITS FALSE NEIGHBOUR: 'it returns false'. Refute it at one input. -/
def varintGetsWrong : ChangeSpec := { name := "varintGets", fn := fun _ => fun
  | [d] => { results := [.lit (.bool false)], args := [d] }
  | _ => none }
def VarintGetsWrongFalsely : Prop := varintGetsRow.holds Try.pinned (OpenSpec.ofChange varintGetsWrong)

/-- 'tidewaiterlaw02.VarintPuts': WHATEVER THE INPUT: true; the input reads as it did. -/
def varintPutsSpec : ChangeSpec := { name := "varintPuts", fn := fun _ => fun
  | [d1, d2, d3] => { results := [.lit (.bool true)], args := [d1, d2, d3] }
  | _ => none }
def varintPutsRow : OpenClaim := { program := "ytofdnamgnijfnaa", sum := "1a60feda0df139d6208c072525abc87b244916a61f43a4e2782ef1942e150447", func := "tidewaiter/tidewaiterlaw02.VarintPuts", spec := "varintPuts", apart := false }
def VarintPutsSaid : Prop := varintPutsRow.holds Try.pinned (OpenSpec.ofChange varintPutsSpec)

/-- ITS FALSE NEIGHBOUR: 'it returns false'. Refute it at one input. -/
def varintPutsWrong : ChangeSpec := { name := "varintPuts", fn := fun _ => fun
  | [d1, d2, d3] => { results := [.lit (.bool false)], args := [d1, d2, d3] }
  | _ => none }
def VarintPutsWrongFalsely : Prop := varintPutsRow.holds Try.pinned (OpenSpec.ofChange varintPutsWrong)

/-- 'tidewaiterlaw05.FrameEncodes': WHATEVER THE INPUT: true; the input reads as it did. -/
def frameEncodesSpec : ChangeSpec := { name := "frameEncodes", fn := fun _ => fun
  | [d1, d2] => { results := [.lit (.bool true)], args := [d1, d2] }
  | _ => none }
def frameEncodesRow : OpenClaim := { program := "ytofdnamgnijfnaa", sum := "1a60feda0df139d6208c072525abc87b244916a61f43a4e2782ef1942e150447", func := "tidewaiter/tidewaiterlaw05.FrameEncodes", spec := "frameEncodes", apart := false }
def FrameEncodesSaid : Prop := frameEncodesRow.holds Try.pinned (OpenSpec.ofChange frameEncodesSpec)

/-- ITS FALSE NEIGHBOUR: 'it returns false'. Refute it at one input. -/
def frameEncodesWrong : ChangeSpec := { name := "frameEncodes", fn := fun _ => fun
  | [d1, d2] => { results := [.lit (.bool false)], args := [d1, d2] }
  | _ => none }
def FrameEncodesWrongFalsely : Prop := frameEncodesRow.holds Try.pinned (OpenSpec.ofChange frameEncodesWrong)

/-- 'tidewaiterlaw05.FrameGets': WHATEVER THE INPUT: true; the input reads as it did. -/
def frameGetsSpec : ChangeSpec := { name := "frameGets", fn := fun _ => fun
  | [d] => { results := [.lit (.bool true)], args := [d] }
  | _ => none }
def frameGetsRow : OpenClaim := { program := "ytofdnamgnijfnaa", sum := "1a60feda0df139d6208c072525abc87b244916a61f43a4e2782ef1942e150447", func := "tidewaiter/tidewaiterlaw05.FrameGets", spec := "frameGets", apart := false }
def FrameGetsSaid : Prop := frameGetsRow.holds Try.pinned (OpenSpec.ofChange frameGetsSpec)

/-- ITS FALSE NEIGHBOUR: 'it returns false'. Refute it at one input. -/
def frameGetsWrong : ChangeSpec := { name := "frameGets", fn := fun _ => fun
  | [d] => { results := [.lit (.bool false)], args := [d] }
  | _ => none }
def FrameGetsWrongFalsely : Prop := frameGetsRow.holds Try.pinned (OpenSpec.ofChange frameGetsWrong)

/-- 'tidewaiterlaw05.FrameLong': WHATEVER THE INPUT: true; the input reads as it did. -/
def frameLongSpec : ChangeSpec := { name := "frameLong", fn := fun _ => fun
  | [d1, d2, d3] => { results := [.lit (.bool true)], args := [d1, d2, d3] }
  | _ => none }
def frameLongRow : OpenClaim := { program := "ytofdnamgnijfnaa", sum := "1a60feda0df139d6208c072525abc87b244916a61f43a4e2782ef1942e150447", func := "tidewaiter/tidewaiterlaw05.FrameLong", spec := "frameLong", apart := false }
def FrameLongSaid : Prop := frameLongRow.holds Try.pinned (OpenSpec.ofChange frameLongSpec)

/-- ITS FALSE NEIGHBOUR: 'it returns false'. Refute it at one input. -/
def frameLongWrong : ChangeSpec := { name := "frameLong", fn := fun _ => fun
  | [d1, d2, d3] => { results := [.lit (.bool false)], args := [d1, d2, d3] }
  | _ => none }
def FrameLongWrongFalsely : Prop := frameLongRow.holds Try.pinned (OpenSpec.ofChange frameLongWrong)

/-- 'tidewaitertop.WholeNumbers': WHATEVER THE INPUT: true; the input reads as it did. -/
def wholeNumbersSpec : ChangeSpec := { name := "wholeNumbers", fn := fun _ => fun
  | [d] => { results := [.lit (.bool true)], args := [d] }
  | _ => none }
def wholeNumbersRow : OpenClaim := { program := "ytofdnamgnijfnaa", sum := "1a60feda0df139d6208c072525abc87b244916a61f43a4e2782ef1942e150447", func := "tidewaiter/tidewaitertop.WholeNumbers", spec := "wholeNumbers", apart := false }
def WholeNumbersSaid : Prop := wholeNumbersRow.holds Try.pinned (OpenSpec.ofChange wholeNumbersSpec)

/-- ITS FALSE NEIGHBOUR: 'it returns false'. Refute it at one input. -/
def wholeNumbersWrong : ChangeSpec := { name := "wholeNumbers", fn := fun _ => fun
  | [d] => { results := [.lit (.bool false)], args := [d] }
  | _ => none }
def WholeNumbersWrongFalsely : Prop := wholeNumbersRow.holds Try.pinned (OpenSpec.ofChange wholeNumbersWrong)

/-- 'tidewaiterlaw06.LogParses': WHATEVER THE INPUT: true; the input reads as it did. -/
def logParsesSpec : ChangeSpec := { name := "logParses", fn := fun _ => fun
  | [d] => { results := [.lit (.bool true)], args := [d] }
  | _ => none }
def logParsesRow : OpenClaim := { program := "ytofdnamgnijfnaa", sum := "1a60feda0df139d6208c072525abc87b244916a61f43a4e2782ef1942e150447", func := "tidewaiter/tidewaiterlaw06.LogParses", spec := "logParses", inPlace := ["internal/abi.NoEscape"], apart := false }
def LogParsesSaid : Prop := logParsesRow.holds Try.pinned (OpenSpec.ofChange logParsesSpec)

/-- ITS FALSE NEIGHBOUR: 'it returns false'. Refute it at one input. -/
def logParsesWrong : ChangeSpec := { name := "logParses", fn := fun _ => fun
  | [d] => { results := [.lit (.bool false)], args := [d] }
  | _ => none }
def LogParsesWrongFalsely : Prop := logParsesRow.holds Try.pinned (OpenSpec.ofChange logParsesWrong)

/-- 'tidewaiterlaw06.LogBuilds': WHATEVER THE INPUT: true; the input reads as it did. -/
def logBuildsSpec : ChangeSpec := { name := "logBuilds", fn := fun _ => fun
  | [d1, d2] => { results := [.lit (.bool true)], args := [d1, d2] }
  | _ => none }
def logBuildsRow : OpenClaim := { program := "ytofdnamgnijfnaa", sum := "1a60feda0df139d6208c072525abc87b244916a61f43a4e2782ef1942e150447", func := "tidewaiter/tidewaiterlaw06.LogBuilds", spec := "logBuilds", inPlace := ["internal/abi.NoEscape"], apart := false }
def LogBuildsSaid : Prop := logBuildsRow.holds Try.pinned (OpenSpec.ofChange logBuildsSpec)

/-- ITS FALSE NEIGHBOUR: 'it returns false'. Refute it at one input. -/
def logBuildsWrong : ChangeSpec := { name := "logBuilds", fn := fun _ => fun
  | [d1, d2] => { results := [.lit (.bool false)], args := [d1, d2] }
  | _ => none }
def LogBuildsWrongFalsely : Prop := logBuildsRow.holds Try.pinned (OpenSpec.ofChange logBuildsWrong)

/-- 'tidewaitertop.WholeLogs': WHATEVER THE INPUT: true; the input reads as it did. -/
def wholeLogsSpec : ChangeSpec := { name := "wholeLogs", fn := fun _ => fun
  | [d1, d2] => { results := [.lit (.bool true)], args := [d1, d2] }
  | _ => none }
def wholeLogsRow : OpenClaim := { program := "ytofdnamgnijfnaa", sum := "1a60feda0df139d6208c072525abc87b244916a61f43a4e2782ef1942e150447", func := "tidewaiter/tidewaitertop.WholeLogs", spec := "wholeLogs", inPlace := ["internal/abi.NoEscape"], apart := false }
def WholeLogsSaid : Prop := wholeLogsRow.holds Try.pinned (OpenSpec.ofChange wholeLogsSpec)

/-- ITS FALSE NEIGHBOUR: 'it returns false'. Refute it at one input. -/
def wholeLogsWrong : ChangeSpec := { name := "wholeLogs", fn := fun _ => fun
  | [d1, d2] => { results := [.lit (.bool false)], args := [d1, d2] }
  | _ => none }
def WholeLogsWrongFalsely : Prop := wholeLogsRow.holds Try.pinned (OpenSpec.ofChange wholeLogsWrong)

/- THE SECOND FORM. 'bulk': how many values and letters a reading holds, each counted each time it is reached (what is shared counts as often as it is met; a slice's spare places count too). A statement '..UptoSaid' is the law's where the arguments, and the package variables that the reading takes, are together of bulk at most 1048576: NARROWER than '..Said'. Prove '..Said' where nothing that the law and all that it calls make is longer than what came in: it says more and counts as full. Else prove '..UptoSaid'. A law counts once. -/
mutual
def uptoBulk {H : Type} : DataW H → Nat
  | .lit (.string bytes) => bytes.length + 1
  | .lit _ => 1
  | .nil => 1
  | .ptr d => uptoBulk d + 1
  | .slice elems spare => uptoBulkAll elems + uptoBulkAll spare + 1
  | .agg parts => uptoBulkAll parts + 1
  | .iface _ d => uptoBulk d + 1
  | .map entries => uptoBulkEntries entries + 1
  | .held _ => 1
def uptoBulkAll {H : Type} : List (DataW H) → Nat
  | [] => 0
  | d :: r => uptoBulk d + uptoBulkAll r
def uptoBulkEntries {H : Type} : List (Lit × DataW H) → Nat
  | [] => 0
  | x :: r => uptoBulkEntry x + uptoBulkEntries r
def uptoBulkEntry {H : Type} : Lit × DataW H → Nat
  | (.string bytes, d) => bytes.length + uptoBulk d + 1
  | (_, d) => uptoBulk d + 1
 end
def uptoSmall : (H : Type) → List (DataW H) → Bool := fun _ ds => decide (uptoBulkAll ds ≤ 1048576)
def OpenSpec.upto (s : _root_.Go.ChangeSpec) : _root_.Go.OpenSpec := { _root_.Go.OpenSpec.ofChange s with cond := some uptoSmall }

/-- 'tidewaiterlaw03.CrcSums', WHERE WHAT IT READS IS OF BULK AT MOST 1048576: true; the input reads as it did. -/
def crcSumsUptoRow : OpenClaim := { program := "ytofdnamgnijfnaa", sum := "1a60feda0df139d6208c072525abc87b244916a61f43a4e2782ef1942e150447", func := "tidewaiter/tidewaiterlaw03.CrcSums", spec := "crcSums", apart := false, narrowed := true }
def CrcSumsUptoSaid : Prop := crcSumsUptoRow.holds Try.pinned (OpenSpec.upto crcSumsSpec)

/-- 'tidewaiterlaw03.CrcOpens', WHERE WHAT IT READS IS OF BULK AT MOST 1048576: true; the input reads as it did. -/
def crcOpensUptoRow : OpenClaim := { program := "ytofdnamgnijfnaa", sum := "1a60feda0df139d6208c072525abc87b244916a61f43a4e2782ef1942e150447", func := "tidewaiter/tidewaiterlaw03.CrcOpens", spec := "crcOpens", apart := false, narrowed := true }
def CrcOpensUptoSaid : Prop := crcOpensUptoRow.holds Try.pinned (OpenSpec.upto crcOpensSpec)

/-- 'tidewaiterlaw03.CrcBursts', WHERE WHAT IT READS IS OF BULK AT MOST 1048576: true; the input reads as it did. -/
def crcBurstsUptoRow : OpenClaim := { program := "ytofdnamgnijfnaa", sum := "1a60feda0df139d6208c072525abc87b244916a61f43a4e2782ef1942e150447", func := "tidewaiter/tidewaiterlaw03.CrcBursts", spec := "crcBursts", apart := false, narrowed := true }
def CrcBurstsUptoSaid : Prop := crcBurstsUptoRow.holds Try.pinned (OpenSpec.upto crcBurstsSpec)

/-- 'tidewaiterlaw02.VarintGets', WHERE WHAT IT READS IS OF BULK AT MOST 1048576: true; the input reads as it did. -/
def varintGetsUptoRow : OpenClaim := { program := "ytofdnamgnijfnaa", sum := "1a60feda0df139d6208c072525abc87b244916a61f43a4e2782ef1942e150447", func := "tidewaiter/tidewaiterlaw02.VarintGets", spec := "varintGets", apart := false, narrowed := true }
def VarintGetsUptoSaid : Prop := varintGetsUptoRow.holds Try.pinned (OpenSpec.upto varintGetsSpec)

/-- 'tidewaiterlaw02.VarintPuts', WHERE WHAT IT READS IS OF BULK AT MOST 1048576: true; the input reads as it did. -/
def varintPutsUptoRow : OpenClaim := { program := "ytofdnamgnijfnaa", sum := "1a60feda0df139d6208c072525abc87b244916a61f43a4e2782ef1942e150447", func := "tidewaiter/tidewaiterlaw02.VarintPuts", spec := "varintPuts", apart := false, narrowed := true }
def VarintPutsUptoSaid : Prop := varintPutsUptoRow.holds Try.pinned (OpenSpec.upto varintPutsSpec)

/-- 'tidewaiterlaw05.FrameEncodes', WHERE WHAT IT READS IS OF BULK AT MOST 1048576: true; the input reads as it did. -/
def frameEncodesUptoRow : OpenClaim := { program := "ytofdnamgnijfnaa", sum := "1a60feda0df139d6208c072525abc87b244916a61f43a4e2782ef1942e150447", func := "tidewaiter/tidewaiterlaw05.FrameEncodes", spec := "frameEncodes", apart := false, narrowed := true }
def FrameEncodesUptoSaid : Prop := frameEncodesUptoRow.holds Try.pinned (OpenSpec.upto frameEncodesSpec)

/-- 'tidewaiterlaw05.FrameGets', WHERE WHAT IT READS IS OF BULK AT MOST 1048576: true; the input reads as it did. -/
def frameGetsUptoRow : OpenClaim := { program := "ytofdnamgnijfnaa", sum := "1a60feda0df139d6208c072525abc87b244916a61f43a4e2782ef1942e150447", func := "tidewaiter/tidewaiterlaw05.FrameGets", spec := "frameGets", apart := false, narrowed := true }
def FrameGetsUptoSaid : Prop := frameGetsUptoRow.holds Try.pinned (OpenSpec.upto frameGetsSpec)

/-- 'tidewaiterlaw05.FrameLong', WHERE WHAT IT READS IS OF BULK AT MOST 1048576: true; the input reads as it did. -/
def frameLongUptoRow : OpenClaim := { program := "ytofdnamgnijfnaa", sum := "1a60feda0df139d6208c072525abc87b244916a61f43a4e2782ef1942e150447", func := "tidewaiter/tidewaiterlaw05.FrameLong", spec := "frameLong", apart := false, narrowed := true }
def FrameLongUptoSaid : Prop := frameLongUptoRow.holds Try.pinned (OpenSpec.upto frameLongSpec)

/-- 'tidewaitertop.WholeNumbers', WHERE WHAT IT READS IS OF BULK AT MOST 1048576: true; the input reads as it did. -/
def wholeNumbersUptoRow : OpenClaim := { program := "ytofdnamgnijfnaa", sum := "1a60feda0df139d6208c072525abc87b244916a61f43a4e2782ef1942e150447", func := "tidewaiter/tidewaitertop.WholeNumbers", spec := "wholeNumbers", apart := false, narrowed := true }
def WholeNumbersUptoSaid : Prop := wholeNumbersUptoRow.holds Try.pinned (OpenSpec.upto wholeNumbersSpec)

/-- 'tidewaiterlaw06.LogParses', WHERE WHAT IT READS IS OF BULK AT MOST 1048576: true; the input reads as it did. -/
def logParsesUptoRow : OpenClaim := { program := "ytofdnamgnijfnaa", sum := "1a60feda0df139d6208c072525abc87b244916a61f43a4e2782ef1942e150447", func := "tidewaiter/tidewaiterlaw06.LogParses", spec := "logParses", inPlace := ["internal/abi.NoEscape"], apart := false, narrowed := true }
def LogParsesUptoSaid : Prop := logParsesUptoRow.holds Try.pinned (OpenSpec.upto logParsesSpec)

/-- 'tidewaiterlaw06.LogBuilds', WHERE WHAT IT READS IS OF BULK AT MOST 1048576: true; the input reads as it did. -/
def logBuildsUptoRow : OpenClaim := { program := "ytofdnamgnijfnaa", sum := "1a60feda0df139d6208c072525abc87b244916a61f43a4e2782ef1942e150447", func := "tidewaiter/tidewaiterlaw06.LogBuilds", spec := "logBuilds", inPlace := ["internal/abi.NoEscape"], apart := false, narrowed := true }
def LogBuildsUptoSaid : Prop := logBuildsUptoRow.holds Try.pinned (OpenSpec.upto logBuildsSpec)

/-- 'tidewaitertop.WholeLogs', WHERE WHAT IT READS IS OF BULK AT MOST 1048576: true; the input reads as it did. -/
def wholeLogsUptoRow : OpenClaim := { program := "ytofdnamgnijfnaa", sum := "1a60feda0df139d6208c072525abc87b244916a61f43a4e2782ef1942e150447", func := "tidewaiter/tidewaitertop.WholeLogs", spec := "wholeLogs", inPlace := ["internal/abi.NoEscape"], apart := false, narrowed := true }
def WholeLogsUptoSaid : Prop := wholeLogsUptoRow.holds Try.pinned (OpenSpec.upto wholeLogsSpec)

end Rows
end Go.Proofs.Ytofdnamgnijfnaa
