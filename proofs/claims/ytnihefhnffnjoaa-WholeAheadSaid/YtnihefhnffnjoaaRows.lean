/-
  No cell of these rows narrows 'for every input' (looked for: loops, veiled, ifaces, maps, wideKeys, modest, calm, conditions, laid).
  DERIVED. THE GIVEN ROWS OF THIS SEAT. 10 by the template 'for every input the law returns true; each argument reads behind the call as it read before'; 0 by the template 'total and deterministic' (their statements: YtnihefhnffnjoaaTotals.lean).
  GIVEN WITH THE SEED: the statements are not yours to turn. If you find one false, say at which input.
  Laid BY PROGRAM, IN A SANDBOX (cutbox-rows.mjs): the forced cells as the released guide's own fill.sh prints them over the translation bcfd3e5df6d724c7… (all of the seat's roots in one cut). By AI agents, Wed Nov 11 2026. No macro, syntax, notation, axiom, sorry.
-/
import Derived.Test.YtnihefhnffnjoaaChecked
import GoSem.Claim
import GoSem.ClaimJoined
import GoSem.ClaimMapViews
import Derived.JoinedTies
import Derived.KernelRfl
namespace Go.Proofs.Ytnihefhnffnjoaa
/- THE CELL 'sum', in the pinned program and in every row, IS THE sha256 OF THE DUMP (.gsa) THAT YtnihefhnffnjoaaProg.lean LOADS. Nothing in Lean hashes anything: it is a label: what it is worth is what the hold of that sum in a sandbox is worth. -/
noncomputable def Try.pinned : Pinned := { name := "ytnihefhnffnjoaa", sum := "bcfd3e5df6d724c7c8257c67a53ee69ac9de0ce46e6446c4b3282722077647a4", checked := Try.checked }
namespace Rows
def none {H : Type} : Left H := { results := [], args := [] }

/-- 'tidewaiterlaw15.IdleKept': WHATEVER THE INPUT: true; the input reads as it did. -/
def idleKeptSpec : ChangeSpec := { name := "idleKept", fn := fun _ => fun
  | [d1, d2] => { results := [.lit (.bool true)], args := [d1, d2] }
  | _ => none }
def idleKeptRow : OpenClaim := { program := "ytnihefhnffnjoaa", sum := "bcfd3e5df6d724c7c8257c67a53ee69ac9de0ce46e6446c4b3282722077647a4", func := "tidewaiter/tidewaiterlaw15.IdleKept", spec := "idleKept", apart := false }
def IdleKeptSaid : Prop := idleKeptRow.holds Try.pinned (OpenSpec.ofChange idleKeptSpec)

/-- ITS FALSE NEIGHBOUR: 'it returns false'. Refute it at one input. -/
def idleKeptWrong : ChangeSpec := { name := "idleKept", fn := fun _ => fun
  | [d1, d2] => { results := [.lit (.bool false)], args := [d1, d2] }
  | _ => none }
def IdleKeptWrongFalsely : Prop := idleKeptRow.holds Try.pinned (OpenSpec.ofChange idleKeptWrong)

/-- 'tidewaiterlaw15.IdleDoes': WHATEVER THE INPUT: true; the input reads as it did. -/
def idleDoesSpec : ChangeSpec := { name := "idleDoes", fn := fun _ => fun
  | [d1, d2, d3] => { results := [.lit (.bool true)], args := [d1, d2, d3] }
  | _ => none }
def idleDoesRow : OpenClaim := { program := "ytnihefhnffnjoaa", sum := "bcfd3e5df6d724c7c8257c67a53ee69ac9de0ce46e6446c4b3282722077647a4", func := "tidewaiter/tidewaiterlaw15.IdleDoes", spec := "idleDoes", apart := false }
def IdleDoesSaid : Prop := idleDoesRow.holds Try.pinned (OpenSpec.ofChange idleDoesSpec)

/-- ITS FALSE NEIGHBOUR: 'it returns false'. Refute it at one input. -/
def idleDoesWrong : ChangeSpec := { name := "idleDoes", fn := fun _ => fun
  | [d1, d2, d3] => { results := [.lit (.bool false)], args := [d1, d2, d3] }
  | _ => none }
def IdleDoesWrongFalsely : Prop := idleDoesRow.holds Try.pinned (OpenSpec.ofChange idleDoesWrong)

/-- 'tidewaiterlaw18.AlignDoes': WHATEVER THE INPUT: true; the input reads as it did. -/
def alignDoesSpec : ChangeSpec := { name := "alignDoes", fn := fun _ => fun
  | [d1, d2, d3] => { results := [.lit (.bool true)], args := [d1, d2, d3] }
  | _ => none }
def alignDoesRow : OpenClaim := { program := "ytnihefhnffnjoaa", sum := "bcfd3e5df6d724c7c8257c67a53ee69ac9de0ce46e6446c4b3282722077647a4", func := "tidewaiter/tidewaiterlaw18.AlignDoes", spec := "alignDoes", apart := false }
def AlignDoesSaid : Prop := alignDoesRow.holds Try.pinned (OpenSpec.ofChange alignDoesSpec)

/-- ITS FALSE NEIGHBOUR: 'it returns false'. Refute it at one input. -/
def alignDoesWrong : ChangeSpec := { name := "alignDoes", fn := fun _ => fun
  | [d1, d2, d3] => { results := [.lit (.bool false)], args := [d1, d2, d3] }
  | _ => none }
def AlignDoesWrongFalsely : Prop := alignDoesRow.holds Try.pinned (OpenSpec.ofChange alignDoesWrong)

/-- 'tidewaiterlaw18.AlignFree': WHATEVER THE INPUT: true; the input reads as it did. -/
def alignFreeSpec : ChangeSpec := { name := "alignFree", fn := fun _ => fun
  | [d1, d2, d3] => { results := [.lit (.bool true)], args := [d1, d2, d3] }
  | _ => none }
def alignFreeRow : OpenClaim := { program := "ytnihefhnffnjoaa", sum := "bcfd3e5df6d724c7c8257c67a53ee69ac9de0ce46e6446c4b3282722077647a4", func := "tidewaiter/tidewaiterlaw18.AlignFree", spec := "alignFree", apart := false }
def AlignFreeSaid : Prop := alignFreeRow.holds Try.pinned (OpenSpec.ofChange alignFreeSpec)

/-- ITS FALSE NEIGHBOUR: 'it returns false'. Refute it at one input. -/
def alignFreeWrong : ChangeSpec := { name := "alignFree", fn := fun _ => fun
  | [d1, d2, d3] => { results := [.lit (.bool false)], args := [d1, d2, d3] }
  | _ => none }
def AlignFreeWrongFalsely : Prop := alignFreeRow.holds Try.pinned (OpenSpec.ofChange alignFreeWrong)

/-- 'tidewaiterlaw16.TreeDoes': WHATEVER THE INPUT: true; the input reads as it did. -/
def treeDoesSpec : ChangeSpec := { name := "treeDoes", fn := fun _ => fun
  | [d1, d2] => { results := [.lit (.bool true)], args := [d1, d2] }
  | _ => none }
def treeDoesRow : OpenClaim := { program := "ytnihefhnffnjoaa", sum := "bcfd3e5df6d724c7c8257c67a53ee69ac9de0ce46e6446c4b3282722077647a4", func := "tidewaiter/tidewaiterlaw16.TreeDoes", spec := "treeDoes", apart := false }
def TreeDoesSaid : Prop := treeDoesRow.holds Try.pinned (OpenSpec.ofChange treeDoesSpec)

/-- ITS FALSE NEIGHBOUR: 'it returns false'. Refute it at one input. -/
def treeDoesWrong : ChangeSpec := { name := "treeDoes", fn := fun _ => fun
  | [d1, d2] => { results := [.lit (.bool false)], args := [d1, d2] }
  | _ => none }
def TreeDoesWrongFalsely : Prop := treeDoesRow.holds Try.pinned (OpenSpec.ofChange treeDoesWrong)

/-- 'tidewaiterlaw16.TreeSorts': WHATEVER THE INPUT: true; the input reads as it did. -/
def treeSortsSpec : ChangeSpec := { name := "treeSorts", fn := fun _ => fun
  | [d] => { results := [.lit (.bool true)], args := [d] }
  | _ => none }
def treeSortsRow : OpenClaim := { program := "ytnihefhnffnjoaa", sum := "bcfd3e5df6d724c7c8257c67a53ee69ac9de0ce46e6446c4b3282722077647a4", func := "tidewaiter/tidewaiterlaw16.TreeSorts", spec := "treeSorts", apart := false }
def TreeSortsSaid : Prop := treeSortsRow.holds Try.pinned (OpenSpec.ofChange treeSortsSpec)

/-- ITS FALSE NEIGHBOUR: 'it returns false'. Refute it at one input. -/
def treeSortsWrong : ChangeSpec := { name := "treeSorts", fn := fun _ => fun
  | [d] => { results := [.lit (.bool false)], args := [d] }
  | _ => none }
def TreeSortsWrongFalsely : Prop := treeSortsRow.holds Try.pinned (OpenSpec.ofChange treeSortsWrong)

/-- 'tidewaiterlaw17.MergeHolds': WHATEVER THE INPUT: true; the input reads as it did. -/
def mergeHoldsSpec : ChangeSpec := { name := "mergeHolds", fn := fun _ => fun
  | [d1, d2] => { results := [.lit (.bool true)], args := [d1, d2] }
  | _ => none }
def mergeHoldsRow : OpenClaim := { program := "ytnihefhnffnjoaa", sum := "bcfd3e5df6d724c7c8257c67a53ee69ac9de0ce46e6446c4b3282722077647a4", func := "tidewaiter/tidewaiterlaw17.MergeHolds", spec := "mergeHolds", apart := false }
def MergeHoldsSaid : Prop := mergeHoldsRow.holds Try.pinned (OpenSpec.ofChange mergeHoldsSpec)

/-- ITS FALSE NEIGHBOUR: 'it returns false'. Refute it at one input. -/
def mergeHoldsWrong : ChangeSpec := { name := "mergeHolds", fn := fun _ => fun
  | [d1, d2] => { results := [.lit (.bool false)], args := [d1, d2] }
  | _ => none }
def MergeHoldsWrongFalsely : Prop := mergeHoldsRow.holds Try.pinned (OpenSpec.ofChange mergeHoldsWrong)

/-- 'tidewaiterlaw17.MergeDoes': WHATEVER THE INPUT: true; the input reads as it did. -/
def mergeDoesSpec : ChangeSpec := { name := "mergeDoes", fn := fun _ => fun
  | [d1, d2] => { results := [.lit (.bool true)], args := [d1, d2] }
  | _ => none }
def mergeDoesRow : OpenClaim := { program := "ytnihefhnffnjoaa", sum := "bcfd3e5df6d724c7c8257c67a53ee69ac9de0ce46e6446c4b3282722077647a4", func := "tidewaiter/tidewaiterlaw17.MergeDoes", spec := "mergeDoes", apart := false }
def MergeDoesSaid : Prop := mergeDoesRow.holds Try.pinned (OpenSpec.ofChange mergeDoesSpec)

/-- ITS FALSE NEIGHBOUR: 'it returns false'. Refute it at one input. -/
def mergeDoesWrong : ChangeSpec := { name := "mergeDoes", fn := fun _ => fun
  | [d1, d2] => { results := [.lit (.bool false)], args := [d1, d2] }
  | _ => none }
def MergeDoesWrongFalsely : Prop := mergeDoesRow.holds Try.pinned (OpenSpec.ofChange mergeDoesWrong)

/-- 'tidewaitertop.WholeSilent': WHATEVER THE INPUT: true; the input reads as it did. -/
def wholeSilentSpec : ChangeSpec := { name := "wholeSilent", fn := fun _ => fun
  | [d1, d2, d3] => { results := [.lit (.bool true)], args := [d1, d2, d3] }
  | _ => none }
def wholeSilentRow : OpenClaim := { program := "ytnihefhnffnjoaa", sum := "bcfd3e5df6d724c7c8257c67a53ee69ac9de0ce46e6446c4b3282722077647a4", func := "tidewaiter/tidewaitertop.WholeSilent", spec := "wholeSilent", apart := false }
def WholeSilentSaid : Prop := wholeSilentRow.holds Try.pinned (OpenSpec.ofChange wholeSilentSpec)

/-- ITS FALSE NEIGHBOUR: 'it returns false'. Refute it at one input. -/
def wholeSilentWrong : ChangeSpec := { name := "wholeSilent", fn := fun _ => fun
  | [d1, d2, d3] => { results := [.lit (.bool false)], args := [d1, d2, d3] }
  | _ => none }
def WholeSilentWrongFalsely : Prop := wholeSilentRow.holds Try.pinned (OpenSpec.ofChange wholeSilentWrong)

/-- 'tidewaitertop.WholeAhead': WHATEVER THE INPUT: true; the input reads as it did. -/
def wholeAheadSpec : ChangeSpec := { name := "wholeAhead", fn := fun _ => fun
  | [d1, d2, d3] => { results := [.lit (.bool true)], args := [d1, d2, d3] }
  | _ => none }
def wholeAheadRow : OpenClaim := { program := "ytnihefhnffnjoaa", sum := "bcfd3e5df6d724c7c8257c67a53ee69ac9de0ce46e6446c4b3282722077647a4", func := "tidewaiter/tidewaitertop.WholeAhead", spec := "wholeAhead", apart := false }
def WholeAheadSaid : Prop := wholeAheadRow.holds Try.pinned (OpenSpec.ofChange wholeAheadSpec)

/-- ITS FALSE NEIGHBOUR: 'it returns false'. Refute it at one input. -/
def wholeAheadWrong : ChangeSpec := { name := "wholeAhead", fn := fun _ => fun
  | [d1, d2, d3] => { results := [.lit (.bool false)], args := [d1, d2, d3] }
  | _ => none }
def WholeAheadWrongFalsely : Prop := wholeAheadRow.holds Try.pinned (OpenSpec.ofChange wholeAheadWrong)

/- THE SECOND FORM. 'bulk': how many values and letters a reading holds, each counted each time it is reached (what is shared counts as often as it is met; a slice's spare places count too). A statement '..UptoSaid' is the law's where the arguments, and the package variables that the reading takes, are together of bulk at most 1048576: NARROWER than '..Said'. Prove '..Said' where nothing that the law and all that it calls make is longer than what came in: it says more and counts as full. Else prove '..UptoSaid'. A law counts once. -/
mutual
def uptoBulk {H : Type} : DataW H → Nat
  | .lit (.string bytes) => bytes.length + 1
  | .lit _ => 1
  | .nil => 1
  | .ptr d => uptoBulk d + 1
  | .slice elems spare => uptoBulkAll elems + uptoBulkAll spare + 1
  | .agg parts => uptoBulkAll parts + 1
  | .iface _ d => uptoBulk d + 1
  | .map entries => uptoBulkEntries entries + 1
  | .held _ => 1
def uptoBulkAll {H : Type} : List (DataW H) → Nat
  | [] => 0
  | d :: r => uptoBulk d + uptoBulkAll r
def uptoBulkEntries {H : Type} : List (Lit × DataW H) → Nat
  | [] => 0
  | x :: r => uptoBulkEntry x + uptoBulkEntries r
def uptoBulkEntry {H : Type} : Lit × DataW H → Nat
  | (.string bytes, d) => bytes.length + uptoBulk d + 1
  | (_, d) => uptoBulk d + 1
 end
def uptoSmall : (H : Type) → List (DataW H) → Bool := fun _ ds => decide (uptoBulkAll ds ≤ 1048576)
def OpenSpec.upto (s : _root_.Go.ChangeSpec) : _root_.Go.OpenSpec := { _root_.Go.OpenSpec.ofChange s with cond := some uptoSmall }

/-- 'tidewaiterlaw15.IdleKept', WHERE WHAT IT READS IS OF BULK AT MOST 1048576: true; the input reads as it did. -/
def idleKeptUptoRow : OpenClaim := { program := "ytnihefhnffnjoaa", sum := "bcfd3e5df6d724c7c8257c67a53ee69ac9de0ce46e6446c4b3282722077647a4", func := "tidewaiter/tidewaiterlaw15.IdleKept", spec := "idleKept", apart := false, narrowed := true }
def IdleKeptUptoSaid : Prop := idleKeptUptoRow.holds Try.pinned (OpenSpec.upto idleKeptSpec)

/-- 'tidewaiterlaw15.IdleDoes', WHERE WHAT IT READS IS OF BULK AT MOST 1048576: true; the input reads as it did. -/
def idleDoesUptoRow : OpenClaim := { program := "ytnihefhnffnjoaa", sum := "bcfd3e5df6d724c7c8257c67a53ee69ac9de0ce46e6446c4b3282722077647a4", func := "tidewaiter/tidewaiterlaw15.IdleDoes", spec := "idleDoes", apart := false, narrowed := true }
def IdleDoesUptoSaid : Prop := idleDoesUptoRow.holds Try.pinned (OpenSpec.upto idleDoesSpec)

/-- 'tidewaiterlaw18.AlignDoes', WHERE WHAT IT READS IS OF BULK AT MOST 1048576: true; the input reads as it did. -/
def alignDoesUptoRow : OpenClaim := { program := "ytnihefhnffnjoaa", sum := "bcfd3e5df6d724c7c8257c67a53ee69ac9de0ce46e6446c4b3282722077647a4", func := "tidewaiter/tidewaiterlaw18.AlignDoes", spec := "alignDoes", apart := false, narrowed := true }
def AlignDoesUptoSaid : Prop := alignDoesUptoRow.holds Try.pinned (OpenSpec.upto alignDoesSpec)

/-- 'tidewaiterlaw18.AlignFree', WHERE WHAT IT READS IS OF BULK AT MOST 1048576: true; the input reads as it did. -/
def alignFreeUptoRow : OpenClaim := { program := "ytnihefhnffnjoaa", sum := "bcfd3e5df6d724c7c8257c67a53ee69ac9de0ce46e6446c4b3282722077647a4", func := "tidewaiter/tidewaiterlaw18.AlignFree", spec := "alignFree", apart := false, narrowed := true }
def AlignFreeUptoSaid : Prop := alignFreeUptoRow.holds Try.pinned (OpenSpec.upto alignFreeSpec)

/-- 'tidewaiterlaw16.TreeDoes', WHERE WHAT IT READS IS OF BULK AT MOST 1048576: true; the input reads as it did. -/
def treeDoesUptoRow : OpenClaim := { program := "ytnihefhnffnjoaa", sum := "bcfd3e5df6d724c7c8257c67a53ee69ac9de0ce46e6446c4b3282722077647a4", func := "tidewaiter/tidewaiterlaw16.TreeDoes", spec := "treeDoes", apart := false, narrowed := true }
def TreeDoesUptoSaid : Prop := treeDoesUptoRow.holds Try.pinned (OpenSpec.upto treeDoesSpec)

/-- 'tidewaiterlaw16.TreeSorts', WHERE WHAT IT READS IS OF BULK AT MOST 1048576: true; the input reads as it did. -/
def treeSortsUptoRow : OpenClaim := { program := "ytnihefhnffnjoaa", sum := "bcfd3e5df6d724c7c8257c67a53ee69ac9de0ce46e6446c4b3282722077647a4", func := "tidewaiter/tidewaiterlaw16.TreeSorts", spec := "treeSorts", apart := false, narrowed := true }
def TreeSortsUptoSaid : Prop := treeSortsUptoRow.holds Try.pinned (OpenSpec.upto treeSortsSpec)

/-- 'tidewaiterlaw17.MergeHolds', WHERE WHAT IT READS IS OF BULK AT MOST 1048576: true; the input reads as it did. -/
def mergeHoldsUptoRow : OpenClaim := { program := "ytnihefhnffnjoaa", sum := "bcfd3e5df6d724c7c8257c67a53ee69ac9de0ce46e6446c4b3282722077647a4", func := "tidewaiter/tidewaiterlaw17.MergeHolds", spec := "mergeHolds", apart := false, narrowed := true }
def MergeHoldsUptoSaid : Prop := mergeHoldsUptoRow.holds Try.pinned (OpenSpec.upto mergeHoldsSpec)

/-- 'tidewaiterlaw17.MergeDoes', WHERE WHAT IT READS IS OF BULK AT MOST 1048576: true; the input reads as it did. -/
def mergeDoesUptoRow : OpenClaim := { program := "ytnihefhnffnjoaa", sum := "bcfd3e5df6d724c7c8257c67a53ee69ac9de0ce46e6446c4b3282722077647a4", func := "tidewaiter/tidewaiterlaw17.MergeDoes", spec := "mergeDoes", apart := false, narrowed := true }
def MergeDoesUptoSaid : Prop := mergeDoesUptoRow.holds Try.pinned (OpenSpec.upto mergeDoesSpec)

/-- 'tidewaitertop.WholeSilent', WHERE WHAT IT READS IS OF BULK AT MOST 1048576: true; the input reads as it did. -/
def wholeSilentUptoRow : OpenClaim := { program := "ytnihefhnffnjoaa", sum := "bcfd3e5df6d724c7c8257c67a53ee69ac9de0ce46e6446c4b3282722077647a4", func := "tidewaiter/tidewaitertop.WholeSilent", spec := "wholeSilent", apart := false, narrowed := true }
def WholeSilentUptoSaid : Prop := wholeSilentUptoRow.holds Try.pinned (OpenSpec.upto wholeSilentSpec)

/-- 'tidewaitertop.WholeAhead', WHERE WHAT IT READS IS OF BULK AT MOST 1048576: true; the input reads as it did. -/
def wholeAheadUptoRow : OpenClaim := { program := "ytnihefhnffnjoaa", sum := "bcfd3e5df6d724c7c8257c67a53ee69ac9de0ce46e6446c4b3282722077647a4", func := "tidewaiter/tidewaitertop.WholeAhead", spec := "wholeAhead", apart := false, narrowed := true }
def WholeAheadUptoSaid : Prop := wholeAheadUptoRow.holds Try.pinned (OpenSpec.upto wholeAheadSpec)

end Rows
end Go.Proofs.Ytnihefhnffnjoaa
