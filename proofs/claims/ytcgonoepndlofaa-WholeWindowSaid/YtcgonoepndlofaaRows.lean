/-
  No cell of these rows narrows 'for every input' (looked for: loops, veiled, ifaces, maps, wideKeys, modest, calm, conditions, laid).
  DERIVED. THE GIVEN ROWS OF THIS SEAT. 9 by the template 'for every input the law returns true; each argument reads behind the call as it read before'; 0 by the template 'total and deterministic' (their statements: YtcgonoepndlofaaTotals.lean).
  GIVEN WITH THE SEED: the statements are not yours to turn. If you find one false, say at which input.
  Laid BY PROGRAM, IN A SANDBOX (cutbox-rows.mjs): the forced cells as the released guide's own fill.sh prints them over the translation 61bad0c99b9b9fd4… (all of the seat's roots in one cut). By AI agents, Wed Nov 11 2026. No macro, syntax, notation, axiom, sorry.
-/
import Derived.Test.YtcgonoepndlofaaChecked
import GoSem.Claim
import GoSem.ClaimJoined
import GoSem.ClaimMapViews
import Derived.JoinedTies
import Derived.KernelRfl
namespace Go.Proofs.Ytcgonoepndlofaa
/- THE CELL 'sum', in the pinned program and in every row, IS THE sha256 OF THE DUMP (.gsa) THAT YtcgonoepndlofaaProg.lean LOADS. Nothing in Lean hashes anything: it is a label: what it is worth is what the hold of that sum in a sandbox is worth. -/
noncomputable def Try.pinned : Pinned := { name := "ytcgonoepndlofaa", sum := "61bad0c99b9b9fd40866d079ffbd3e63d89e7d5b470c1d402c94b545d3ced386", checked := Try.checked }
namespace Rows
def none {H : Type} : Left H := { results := [], args := [] }

/-- 'tidewaiterlaw08.HistOrder': WHATEVER THE INPUT: true; the input reads as it did. -/
def histOrderSpec : ChangeSpec := { name := "histOrder", fn := fun _ => fun
  | [d] => { results := [.lit (.bool true)], args := [d] }
  | _ => none }
def histOrderRow : OpenClaim := { program := "ytcgonoepndlofaa", sum := "61bad0c99b9b9fd40866d079ffbd3e63d89e7d5b470c1d402c94b545d3ced386", func := "tidewaiter/tidewaiterlaw08.HistOrder", spec := "histOrder", inPlace := ["slices.overlaps[tidewaiter/hist.bin]"], unfollowed := true, recurses := true, apart := false }
def HistOrderSaid : Prop := histOrderRow.holds Try.pinned (OpenSpec.ofChange histOrderSpec)

/-- ITS FALSE NEIGHBOUR: 'it returns false'. Refute it at one input. -/
def histOrderWrong : ChangeSpec := { name := "histOrder", fn := fun _ => fun
  | [d] => { results := [.lit (.bool false)], args := [d] }
  | _ => none }
def HistOrderWrongFalsely : Prop := histOrderRow.holds Try.pinned (OpenSpec.ofChange histOrderWrong)

/-- 'tidewaiterlaw08.HistDoes': WHATEVER THE INPUT: true; the input reads as it did. -/
def histDoesSpec : ChangeSpec := { name := "histDoes", fn := fun _ => fun
  | [d1, d2] => { results := [.lit (.bool true)], args := [d1, d2] }
  | _ => none }
def histDoesRow : OpenClaim := { program := "ytcgonoepndlofaa", sum := "61bad0c99b9b9fd40866d079ffbd3e63d89e7d5b470c1d402c94b545d3ced386", func := "tidewaiter/tidewaiterlaw08.HistDoes", spec := "histDoes", inPlace := ["slices.overlaps[tidewaiter/hist.bin]"], unfollowed := true, recurses := true, apart := false }
def HistDoesSaid : Prop := histDoesRow.holds Try.pinned (OpenSpec.ofChange histDoesSpec)

/-- ITS FALSE NEIGHBOUR: 'it returns false'. Refute it at one input. -/
def histDoesWrong : ChangeSpec := { name := "histDoes", fn := fun _ => fun
  | [d1, d2] => { results := [.lit (.bool false)], args := [d1, d2] }
  | _ => none }
def HistDoesWrongFalsely : Prop := histDoesRow.holds Try.pinned (OpenSpec.ofChange histDoesWrong)

/-- 'tidewaiterlaw12.PercentNows': WHATEVER THE INPUT: true; the input reads as it did. -/
def percentNowsSpec : ChangeSpec := { name := "percentNows", fn := fun _ => fun
  | [d1, d2, d3] => { results := [.lit (.bool true)], args := [d1, d2, d3] }
  | _ => none }
def percentNowsRow : OpenClaim := { program := "ytcgonoepndlofaa", sum := "61bad0c99b9b9fd40866d079ffbd3e63d89e7d5b470c1d402c94b545d3ced386", func := "tidewaiter/tidewaiterlaw12.PercentNows", spec := "percentNows", inPlace := ["slices.overlaps[tidewaiter/hist.bin]"], unfollowed := true, recurses := true, apart := false }
def PercentNowsSaid : Prop := percentNowsRow.holds Try.pinned (OpenSpec.ofChange percentNowsSpec)

/-- ITS FALSE NEIGHBOUR: 'it returns false'. Refute it at one input. -/
def percentNowsWrong : ChangeSpec := { name := "percentNows", fn := fun _ => fun
  | [d1, d2, d3] => { results := [.lit (.bool false)], args := [d1, d2, d3] }
  | _ => none }
def PercentNowsWrongFalsely : Prop := percentNowsRow.holds Try.pinned (OpenSpec.ofChange percentNowsWrong)

/-- 'tidewaiterlaw12.PercentWide': WHATEVER THE INPUT: true; the input reads as it did. -/
def percentWideSpec : ChangeSpec := { name := "percentWide", fn := fun _ => fun
  | [d1, d2] => { results := [.lit (.bool true)], args := [d1, d2] }
  | _ => none }
def percentWideRow : OpenClaim := { program := "ytcgonoepndlofaa", sum := "61bad0c99b9b9fd40866d079ffbd3e63d89e7d5b470c1d402c94b545d3ced386", func := "tidewaiter/tidewaiterlaw12.PercentWide", spec := "percentWide", inPlace := ["slices.overlaps[tidewaiter/hist.bin]"], unfollowed := true, recurses := true, apart := false }
def PercentWideSaid : Prop := percentWideRow.holds Try.pinned (OpenSpec.ofChange percentWideSpec)

/-- ITS FALSE NEIGHBOUR: 'it returns false'. Refute it at one input. -/
def percentWideWrong : ChangeSpec := { name := "percentWide", fn := fun _ => fun
  | [d1, d2] => { results := [.lit (.bool false)], args := [d1, d2] }
  | _ => none }
def PercentWideWrongFalsely : Prop := percentWideRow.holds Try.pinned (OpenSpec.ofChange percentWideWrong)

/-- 'tidewaiterlaw13.GenOf': WHATEVER THE INPUT: true; the input reads as it did. -/
def genOfSpec : ChangeSpec := { name := "genOf", fn := fun _ => fun
  | [d] => { results := [.lit (.bool true)], args := [d] }
  | _ => none }
def genOfRow : OpenClaim := { program := "ytcgonoepndlofaa", sum := "61bad0c99b9b9fd40866d079ffbd3e63d89e7d5b470c1d402c94b545d3ced386", func := "tidewaiter/tidewaiterlaw13.GenOf", spec := "genOf", unfollowed := true, recurses := true, apart := false }
def GenOfSaid : Prop := genOfRow.holds Try.pinned (OpenSpec.ofChange genOfSpec)

/-- ITS FALSE NEIGHBOUR: 'it returns false'. Refute it at one input. -/
def genOfWrong : ChangeSpec := { name := "genOf", fn := fun _ => fun
  | [d] => { results := [.lit (.bool false)], args := [d] }
  | _ => none }
def GenOfWrongFalsely : Prop := genOfRow.holds Try.pinned (OpenSpec.ofChange genOfWrong)

/-- 'tidewaiterlaw13.GenNows': WHATEVER THE INPUT: true; the input reads as it did. -/
def genNowsSpec : ChangeSpec := { name := "genNows", fn := fun _ => fun
  | [d1, d2] => { results := [.lit (.bool true)], args := [d1, d2] }
  | _ => none }
def genNowsRow : OpenClaim := { program := "ytcgonoepndlofaa", sum := "61bad0c99b9b9fd40866d079ffbd3e63d89e7d5b470c1d402c94b545d3ced386", func := "tidewaiter/tidewaiterlaw13.GenNows", spec := "genNows", unfollowed := true, recurses := true, apart := false }
def GenNowsSaid : Prop := genNowsRow.holds Try.pinned (OpenSpec.ofChange genNowsSpec)

/-- ITS FALSE NEIGHBOUR: 'it returns false'. Refute it at one input. -/
def genNowsWrong : ChangeSpec := { name := "genNows", fn := fun _ => fun
  | [d1, d2] => { results := [.lit (.bool false)], args := [d1, d2] }
  | _ => none }
def GenNowsWrongFalsely : Prop := genNowsRow.holds Try.pinned (OpenSpec.ofChange genNowsWrong)

/-- 'tidewaitertop.WholeGens': WHATEVER THE INPUT: true; the input reads as it did. -/
def wholeGensSpec : ChangeSpec := { name := "wholeGens", fn := fun _ => fun
  | [d1, d2, d3] => { results := [.lit (.bool true)], args := [d1, d2, d3] }
  | _ => none }
def wholeGensRow : OpenClaim := { program := "ytcgonoepndlofaa", sum := "61bad0c99b9b9fd40866d079ffbd3e63d89e7d5b470c1d402c94b545d3ced386", func := "tidewaiter/tidewaitertop.WholeGens", spec := "wholeGens", unfollowed := true, recurses := true, apart := false }
def WholeGensSaid : Prop := wholeGensRow.holds Try.pinned (OpenSpec.ofChange wholeGensSpec)

/-- ITS FALSE NEIGHBOUR: 'it returns false'. Refute it at one input. -/
def wholeGensWrong : ChangeSpec := { name := "wholeGens", fn := fun _ => fun
  | [d1, d2, d3] => { results := [.lit (.bool false)], args := [d1, d2, d3] }
  | _ => none }
def WholeGensWrongFalsely : Prop := wholeGensRow.holds Try.pinned (OpenSpec.ofChange wholeGensWrong)

/-- 'tidewaitertop.WholeWindow': WHATEVER THE INPUT: true; the input reads as it did. -/
def wholeWindowSpec : ChangeSpec := { name := "wholeWindow", fn := fun _ => fun
  | [d1, d2] => { results := [.lit (.bool true)], args := [d1, d2] }
  | _ => none }
def wholeWindowRow : OpenClaim := { program := "ytcgonoepndlofaa", sum := "61bad0c99b9b9fd40866d079ffbd3e63d89e7d5b470c1d402c94b545d3ced386", func := "tidewaiter/tidewaitertop.WholeWindow", spec := "wholeWindow", inPlace := ["slices.overlaps[tidewaiter/hist.bin]"], unfollowed := true, recurses := true, apart := false }
def WholeWindowSaid : Prop := wholeWindowRow.holds Try.pinned (OpenSpec.ofChange wholeWindowSpec)

/-- ITS FALSE NEIGHBOUR: 'it returns false'. Refute it at one input. -/
def wholeWindowWrong : ChangeSpec := { name := "wholeWindow", fn := fun _ => fun
  | [d1, d2] => { results := [.lit (.bool false)], args := [d1, d2] }
  | _ => none }
def WholeWindowWrongFalsely : Prop := wholeWindowRow.holds Try.pinned (OpenSpec.ofChange wholeWindowWrong)

/-- 'tidewaitertop.WholeSilent': WHATEVER THE INPUT: true; the input reads as it did. -/
def wholeSilentSpec : ChangeSpec := { name := "wholeSilent", fn := fun _ => fun
  | [d1, d2, d3] => { results := [.lit (.bool true)], args := [d1, d2, d3] }
  | _ => none }
def wholeSilentRow : OpenClaim := { program := "ytcgonoepndlofaa", sum := "61bad0c99b9b9fd40866d079ffbd3e63d89e7d5b470c1d402c94b545d3ced386", func := "tidewaiter/tidewaitertop.WholeSilent", spec := "wholeSilent", apart := false }
def WholeSilentSaid : Prop := wholeSilentRow.holds Try.pinned (OpenSpec.ofChange wholeSilentSpec)

/-- ITS FALSE NEIGHBOUR: 'it returns false'. Refute it at one input. -/
def wholeSilentWrong : ChangeSpec := { name := "wholeSilent", fn := fun _ => fun
  | [d1, d2, d3] => { results := [.lit (.bool false)], args := [d1, d2, d3] }
  | _ => none }
def WholeSilentWrongFalsely : Prop := wholeSilentRow.holds Try.pinned (OpenSpec.ofChange wholeSilentWrong)

/- THE SECOND FORM. 'bulk': how many values and letters a reading holds, each counted each time it is reached (what is shared counts as often as it is met; a slice's spare places count too). A statement '..UptoSaid' is the law's where the arguments, and the package variables that the reading takes, are together of bulk at most 1048576: NARROWER than '..Said'. Prove '..Said' where nothing that the law and all that it calls make is longer than what came in: it says more and counts as full. Else prove '..UptoSaid'. A law counts once. -/
mutual
def uptoBulk {H : Type} : DataW H → Nat
  | .lit (.string bytes) => bytes.length + 1
  | .lit _ => 1
  | .nil => 1
  | .ptr d => uptoBulk d + 1
  | .slice elems spare => uptoBulkAll elems + uptoBulkAll spare + 1
  | .agg parts => uptoBulkAll parts + 1
  | .iface _ d => uptoBulk d + 1
  | .map entries => uptoBulkEntries entries + 1
  | .held _ => 1
def uptoBulkAll {H : Type} : List (DataW H) → Nat
  | [] => 0
  | d :: r => uptoBulk d + uptoBulkAll r
def uptoBulkEntries {H : Type} : List (Lit × DataW H) → Nat
  | [] => 0
  | x :: r => uptoBulkEntry x + uptoBulkEntries r
def uptoBulkEntry {H : Type} : Lit × DataW H → Nat
  | (.string bytes, d) => bytes.length + uptoBulk d + 1
  | (_, d) => uptoBulk d + 1
 end
def uptoSmall : (H : Type) → List (DataW H) → Bool := fun _ ds => decide (uptoBulkAll ds ≤ 1048576)
def OpenSpec.upto (s : _root_.Go.ChangeSpec) : _root_.Go.OpenSpec := { _root_.Go.OpenSpec.ofChange s with cond := some uptoSmall }

/-- 'tidewaiterlaw08.HistOrder', WHERE WHAT IT READS IS OF BULK AT MOST 1048576: true; the input reads as it did. -/
def histOrderUptoRow : OpenClaim := { program := "ytcgonoepndlofaa", sum := "61bad0c99b9b9fd40866d079ffbd3e63d89e7d5b470c1d402c94b545d3ced386", func := "tidewaiter/tidewaiterlaw08.HistOrder", spec := "histOrder", inPlace := ["slices.overlaps[tidewaiter/hist.bin]"], unfollowed := true, recurses := true, apart := false, narrowed := true }
def HistOrderUptoSaid : Prop := histOrderUptoRow.holds Try.pinned (OpenSpec.upto histOrderSpec)

/-- 'tidewaiterlaw08.HistDoes', WHERE WHAT IT READS IS OF BULK AT MOST 1048576: true; the input reads as it did. -/
def histDoesUptoRow : OpenClaim := { program := "ytcgonoepndlofaa", sum := "61bad0c99b9b9fd40866d079ffbd3e63d89e7d5b470c1d402c94b545d3ced386", func := "tidewaiter/tidewaiterlaw08.HistDoes", spec := "histDoes", inPlace := ["slices.overlaps[tidewaiter/hist.bin]"], unfollowed := true, recurses := true, apart := false, narrowed := true }
def HistDoesUptoSaid : Prop := histDoesUptoRow.holds Try.pinned (OpenSpec.upto histDoesSpec)

/-- 'tidewaiterlaw12.PercentNows', WHERE WHAT IT READS IS OF BULK AT MOST 1048576: true; the input reads as it did. -/
def percentNowsUptoRow : OpenClaim := { program := "ytcgonoepndlofaa", sum := "61bad0c99b9b9fd40866d079ffbd3e63d89e7d5b470c1d402c94b545d3ced386", func := "tidewaiter/tidewaiterlaw12.PercentNows", spec := "percentNows", inPlace := ["slices.overlaps[tidewaiter/hist.bin]"], unfollowed := true, recurses := true, apart := false, narrowed := true }
def PercentNowsUptoSaid : Prop := percentNowsUptoRow.holds Try.pinned (OpenSpec.upto percentNowsSpec)

/-- 'tidewaiterlaw12.PercentWide', WHERE WHAT IT READS IS OF BULK AT MOST 1048576: true; the input reads as it did. -/
def percentWideUptoRow : OpenClaim := { program := "ytcgonoepndlofaa", sum := "61bad0c99b9b9fd40866d079ffbd3e63d89e7d5b470c1d402c94b545d3ced386", func := "tidewaiter/tidewaiterlaw12.PercentWide", spec := "percentWide", inPlace := ["slices.overlaps[tidewaiter/hist.bin]"], unfollowed := true, recurses := true, apart := false, narrowed := true }
def PercentWideUptoSaid : Prop := percentWideUptoRow.holds Try.pinned (OpenSpec.upto percentWideSpec)

/-- 'tidewaiterlaw13.GenOf', WHERE WHAT IT READS IS OF BULK AT MOST 1048576: true; the input reads as it did. -/
def genOfUptoRow : OpenClaim := { program := "ytcgonoepndlofaa", sum := "61bad0c99b9b9fd40866d079ffbd3e63d89e7d5b470c1d402c94b545d3ced386", func := "tidewaiter/tidewaiterlaw13.GenOf", spec := "genOf", unfollowed := true, recurses := true, apart := false, narrowed := true }
def GenOfUptoSaid : Prop := genOfUptoRow.holds Try.pinned (OpenSpec.upto genOfSpec)

/-- 'tidewaiterlaw13.GenNows', WHERE WHAT IT READS IS OF BULK AT MOST 1048576: true; the input reads as it did. -/
def genNowsUptoRow : OpenClaim := { program := "ytcgonoepndlofaa", sum := "61bad0c99b9b9fd40866d079ffbd3e63d89e7d5b470c1d402c94b545d3ced386", func := "tidewaiter/tidewaiterlaw13.GenNows", spec := "genNows", unfollowed := true, recurses := true, apart := false, narrowed := true }
def GenNowsUptoSaid : Prop := genNowsUptoRow.holds Try.pinned (OpenSpec.upto genNowsSpec)

/-- 'tidewaitertop.WholeGens', WHERE WHAT IT READS IS OF BULK AT MOST 1048576: true; the input reads as it did. -/
def wholeGensUptoRow : OpenClaim := { program := "ytcgonoepndlofaa", sum := "61bad0c99b9b9fd40866d079ffbd3e63d89e7d5b470c1d402c94b545d3ced386", func := "tidewaiter/tidewaitertop.WholeGens", spec := "wholeGens", unfollowed := true, recurses := true, apart := false, narrowed := true }
def WholeGensUptoSaid : Prop := wholeGensUptoRow.holds Try.pinned (OpenSpec.upto wholeGensSpec)

/-- 'tidewaitertop.WholeWindow', WHERE WHAT IT READS IS OF BULK AT MOST 1048576: true; the input reads as it did. -/
def wholeWindowUptoRow : OpenClaim := { program := "ytcgonoepndlofaa", sum := "61bad0c99b9b9fd40866d079ffbd3e63d89e7d5b470c1d402c94b545d3ced386", func := "tidewaiter/tidewaitertop.WholeWindow", spec := "wholeWindow", inPlace := ["slices.overlaps[tidewaiter/hist.bin]"], unfollowed := true, recurses := true, apart := false, narrowed := true }
def WholeWindowUptoSaid : Prop := wholeWindowUptoRow.holds Try.pinned (OpenSpec.upto wholeWindowSpec)

/-- 'tidewaitertop.WholeSilent', WHERE WHAT IT READS IS OF BULK AT MOST 1048576: true; the input reads as it did. -/
def wholeSilentUptoRow : OpenClaim := { program := "ytcgonoepndlofaa", sum := "61bad0c99b9b9fd40866d079ffbd3e63d89e7d5b470c1d402c94b545d3ced386", func := "tidewaiter/tidewaitertop.WholeSilent", spec := "wholeSilent", apart := false, narrowed := true }
def WholeSilentUptoSaid : Prop := wholeSilentUptoRow.holds Try.pinned (OpenSpec.upto wholeSilentSpec)

end Rows
end Go.Proofs.Ytcgonoepndlofaa
