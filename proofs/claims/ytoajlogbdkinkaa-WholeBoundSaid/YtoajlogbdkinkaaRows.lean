/-
  No cell of these rows narrows 'for every input' (looked for: loops, veiled, ifaces, maps, wideKeys, modest, calm, conditions, laid).
  DERIVED. THE GIVEN ROWS OF THIS SEAT. 12 by the template 'for every input the law returns true; each argument reads behind the call as it read before'; 0 by the template 'total and deterministic' (their statements: YtoajlogbdkinkaaTotals.lean).
  GIVEN WITH THE SEED: the statements are not yours to turn. If you find one false, say at which input.
  Laid BY PROGRAM, IN A SANDBOX (cutbox-rows.mjs): the forced cells as the released guide's own fill.sh prints them over the translation 5a9859b2dcc5ff6b… (all of the seat's roots in one cut). By AI agents, Wed Nov 11 2026. No macro, syntax, notation, axiom, sorry.
-/
import Derived.Test.YtoajlogbdkinkaaChecked
import GoSem.Claim
import GoSem.ClaimJoined
import GoSem.ClaimMapViews
import Derived.JoinedTies
import Derived.KernelRfl
namespace Go.Proofs.Ytoajlogbdkinkaa
/- THE CELL 'sum', in the pinned program and in every row, IS THE sha256 OF THE DUMP (.gsa) THAT YtoajlogbdkinkaaProg.lean LOADS. Nothing in Lean hashes anything: it is a label: what it is worth is what the hold of that sum in a sandbox is worth. -/
noncomputable def Try.pinned : Pinned := { name := "ytoajlogbdkinkaa", sum := "5a9859b2dcc5ff6b9bc1df58eb366ff1d2442b85fef58ce399a52162f2873e0e", checked := Try.checked }
namespace Rows
def none {H : Type} : Left H := { results := [], args := [] }

/-- 'tidewaiterlaw01.SatAdds': WHATEVER THE INPUT: true; the input reads as it did. -/
def satAddsSpec : ChangeSpec := { name := "satAdds", fn := fun _ => fun
  | [d1, d2] => { results := [.lit (.bool true)], args := [d1, d2] }
  | _ => none }
def satAddsRow : OpenClaim := { program := "ytoajlogbdkinkaa", sum := "5a9859b2dcc5ff6b9bc1df58eb366ff1d2442b85fef58ce399a52162f2873e0e", func := "tidewaiter/tidewaiterlaw01.SatAdds", spec := "satAdds", apart := false }
def SatAddsSaid : Prop := satAddsRow.holds Try.pinned (OpenSpec.ofChange satAddsSpec)

/-- ITS FALSE NEIGHBOUR: 'it returns false'. Refute it at one input. -/
def satAddsWrong : ChangeSpec := { name := "satAdds", fn := fun _ => fun
  | [d1, d2] => { results := [.lit (.bool false)], args := [d1, d2] }
  | _ => none }
def SatAddsWrongFalsely : Prop := satAddsRow.holds Try.pinned (OpenSpec.ofChange satAddsWrong)

/-- 'tidewaiterlaw01.SatRises': WHATEVER THE INPUT: true; the input reads as it did. -/
def satRisesSpec : ChangeSpec := { name := "satRises", fn := fun _ => fun
  | [d1, d2, d3] => { results := [.lit (.bool true)], args := [d1, d2, d3] }
  | _ => none }
def satRisesRow : OpenClaim := { program := "ytoajlogbdkinkaa", sum := "5a9859b2dcc5ff6b9bc1df58eb366ff1d2442b85fef58ce399a52162f2873e0e", func := "tidewaiter/tidewaiterlaw01.SatRises", spec := "satRises", apart := false }
def SatRisesSaid : Prop := satRisesRow.holds Try.pinned (OpenSpec.ofChange satRisesSpec)

/-- ITS FALSE NEIGHBOUR: 'it returns false'. Refute it at one input. -/
def satRisesWrong : ChangeSpec := { name := "satRises", fn := fun _ => fun
  | [d1, d2, d3] => { results := [.lit (.bool false)], args := [d1, d2, d3] }
  | _ => none }
def SatRisesWrongFalsely : Prop := satRisesRow.holds Try.pinned (OpenSpec.ofChange satRisesWrong)

/-- 'tidewaiterlaw01.SatSums': WHATEVER THE INPUT: true; the input reads as it did. -/
def satSumsSpec : ChangeSpec := { name := "satSums", fn := fun _ => fun
  | [d1, d2, d3] => { results := [.lit (.bool true)], args := [d1, d2, d3] }
  | _ => none }
def satSumsRow : OpenClaim := { program := "ytoajlogbdkinkaa", sum := "5a9859b2dcc5ff6b9bc1df58eb366ff1d2442b85fef58ce399a52162f2873e0e", func := "tidewaiter/tidewaiterlaw01.SatSums", spec := "satSums", apart := false }
def SatSumsSaid : Prop := satSumsRow.holds Try.pinned (OpenSpec.ofChange satSumsSpec)

/-- ITS FALSE NEIGHBOUR: 'it returns false'. Refute it at one input. -/
def satSumsWrong : ChangeSpec := { name := "satSums", fn := fun _ => fun
  | [d1, d2, d3] => { results := [.lit (.bool false)], args := [d1, d2, d3] }
  | _ => none }
def SatSumsWrongFalsely : Prop := satSumsRow.holds Try.pinned (OpenSpec.ofChange satSumsWrong)

/-- 'tidewaiterlaw14.ClockGoes': WHATEVER THE INPUT: true; the input reads as it did. -/
def clockGoesSpec : ChangeSpec := { name := "clockGoes", fn := fun _ => fun
  | [d1, d2, d3] => { results := [.lit (.bool true)], args := [d1, d2, d3] }
  | _ => none }
def clockGoesRow : OpenClaim := { program := "ytoajlogbdkinkaa", sum := "5a9859b2dcc5ff6b9bc1df58eb366ff1d2442b85fef58ce399a52162f2873e0e", func := "tidewaiter/tidewaiterlaw14.ClockGoes", spec := "clockGoes", apart := false }
def ClockGoesSaid : Prop := clockGoesRow.holds Try.pinned (OpenSpec.ofChange clockGoesSpec)

/-- ITS FALSE NEIGHBOUR: 'it returns false'. Refute it at one input. -/
def clockGoesWrong : ChangeSpec := { name := "clockGoes", fn := fun _ => fun
  | [d1, d2, d3] => { results := [.lit (.bool false)], args := [d1, d2, d3] }
  | _ => none }
def ClockGoesWrongFalsely : Prop := clockGoesRow.holds Try.pinned (OpenSpec.ofChange clockGoesWrong)

/-- 'tidewaiterlaw14.ClockParts': WHATEVER THE INPUT: true; the input reads as it did. -/
def clockPartsSpec : ChangeSpec := { name := "clockParts", fn := fun _ => fun
  | [d1, d2] => { results := [.lit (.bool true)], args := [d1, d2] }
  | _ => none }
def clockPartsRow : OpenClaim := { program := "ytoajlogbdkinkaa", sum := "5a9859b2dcc5ff6b9bc1df58eb366ff1d2442b85fef58ce399a52162f2873e0e", func := "tidewaiter/tidewaiterlaw14.ClockParts", spec := "clockParts", apart := false }
def ClockPartsSaid : Prop := clockPartsRow.holds Try.pinned (OpenSpec.ofChange clockPartsSpec)

/-- ITS FALSE NEIGHBOUR: 'it returns false'. Refute it at one input. -/
def clockPartsWrong : ChangeSpec := { name := "clockParts", fn := fun _ => fun
  | [d1, d2] => { results := [.lit (.bool false)], args := [d1, d2] }
  | _ => none }
def ClockPartsWrongFalsely : Prop := clockPartsRow.holds Try.pinned (OpenSpec.ofChange clockPartsWrong)

/-- 'tidewaiterlaw07.RingAt': WHATEVER THE INPUT: true; the input reads as it did. -/
def ringAtSpec : ChangeSpec := { name := "ringAt", fn := fun _ => fun
  | [d1, d2, d3] => { results := [.lit (.bool true)], args := [d1, d2, d3] }
  | _ => none }
def ringAtRow : OpenClaim := { program := "ytoajlogbdkinkaa", sum := "5a9859b2dcc5ff6b9bc1df58eb366ff1d2442b85fef58ce399a52162f2873e0e", func := "tidewaiter/tidewaiterlaw07.RingAt", spec := "ringAt", apart := false }
def RingAtSaid : Prop := ringAtRow.holds Try.pinned (OpenSpec.ofChange ringAtSpec)

/-- ITS FALSE NEIGHBOUR: 'it returns false'. Refute it at one input. -/
def ringAtWrong : ChangeSpec := { name := "ringAt", fn := fun _ => fun
  | [d1, d2, d3] => { results := [.lit (.bool false)], args := [d1, d2, d3] }
  | _ => none }
def RingAtWrongFalsely : Prop := ringAtRow.holds Try.pinned (OpenSpec.ofChange ringAtWrong)

/-- 'tidewaiterlaw09.ClampRises': WHATEVER THE INPUT: true; the input reads as it did. -/
def clampRisesSpec : ChangeSpec := { name := "clampRises", fn := fun _ => fun
  | [d] => { results := [.lit (.bool true)], args := [d] }
  | _ => none }
def clampRisesRow : OpenClaim := { program := "ytoajlogbdkinkaa", sum := "5a9859b2dcc5ff6b9bc1df58eb366ff1d2442b85fef58ce399a52162f2873e0e", func := "tidewaiter/tidewaiterlaw09.ClampRises", spec := "clampRises", apart := false }
def ClampRisesSaid : Prop := clampRisesRow.holds Try.pinned (OpenSpec.ofChange clampRisesSpec)

/-- ITS FALSE NEIGHBOUR: 'it returns false'. Refute it at one input. -/
def clampRisesWrong : ChangeSpec := { name := "clampRises", fn := fun _ => fun
  | [d] => { results := [.lit (.bool false)], args := [d] }
  | _ => none }
def ClampRisesWrongFalsely : Prop := clampRisesRow.holds Try.pinned (OpenSpec.ofChange clampRisesWrong)

/-- 'tidewaiterlaw09.ClampAgain': WHATEVER THE INPUT: true; the input reads as it did. -/
def clampAgainSpec : ChangeSpec := { name := "clampAgain", fn := fun _ => fun
  | [d] => { results := [.lit (.bool true)], args := [d] }
  | _ => none }
def clampAgainRow : OpenClaim := { program := "ytoajlogbdkinkaa", sum := "5a9859b2dcc5ff6b9bc1df58eb366ff1d2442b85fef58ce399a52162f2873e0e", func := "tidewaiter/tidewaiterlaw09.ClampAgain", spec := "clampAgain", apart := false }
def ClampAgainSaid : Prop := clampAgainRow.holds Try.pinned (OpenSpec.ofChange clampAgainSpec)

/-- ITS FALSE NEIGHBOUR: 'it returns false'. Refute it at one input. -/
def clampAgainWrong : ChangeSpec := { name := "clampAgain", fn := fun _ => fun
  | [d] => { results := [.lit (.bool false)], args := [d] }
  | _ => none }
def ClampAgainWrongFalsely : Prop := clampAgainRow.holds Try.pinned (OpenSpec.ofChange clampAgainWrong)

/-- 'tidewaiterlaw07.RingPushes': WHATEVER THE INPUT: true; the input reads as it did. -/
def ringPushesSpec : ChangeSpec := { name := "ringPushes", fn := fun _ => fun
  | [d1, d2] => { results := [.lit (.bool true)], args := [d1, d2] }
  | _ => none }
def ringPushesRow : OpenClaim := { program := "ytoajlogbdkinkaa", sum := "5a9859b2dcc5ff6b9bc1df58eb366ff1d2442b85fef58ce399a52162f2873e0e", func := "tidewaiter/tidewaiterlaw07.RingPushes", spec := "ringPushes", apart := false }
def RingPushesSaid : Prop := ringPushesRow.holds Try.pinned (OpenSpec.ofChange ringPushesSpec)

/-- ITS FALSE NEIGHBOUR: 'it returns false'. Refute it at one input. -/
def ringPushesWrong : ChangeSpec := { name := "ringPushes", fn := fun _ => fun
  | [d1, d2] => { results := [.lit (.bool false)], args := [d1, d2] }
  | _ => none }
def RingPushesWrongFalsely : Prop := ringPushesRow.holds Try.pinned (OpenSpec.ofChange ringPushesWrong)

/-- 'tidewaiterlaw10.BoundedNows': WHATEVER THE INPUT: true; the input reads as it did. -/
def boundedNowsSpec : ChangeSpec := { name := "boundedNows", fn := fun _ => fun
  | [d1, d2] => { results := [.lit (.bool true)], args := [d1, d2] }
  | _ => none }
def boundedNowsRow : OpenClaim := { program := "ytoajlogbdkinkaa", sum := "5a9859b2dcc5ff6b9bc1df58eb366ff1d2442b85fef58ce399a52162f2873e0e", func := "tidewaiter/tidewaiterlaw10.BoundedNows", spec := "boundedNows", apart := false }
def BoundedNowsSaid : Prop := boundedNowsRow.holds Try.pinned (OpenSpec.ofChange boundedNowsSpec)

/-- ITS FALSE NEIGHBOUR: 'it returns false'. Refute it at one input. -/
def boundedNowsWrong : ChangeSpec := { name := "boundedNows", fn := fun _ => fun
  | [d1, d2] => { results := [.lit (.bool false)], args := [d1, d2] }
  | _ => none }
def BoundedNowsWrongFalsely : Prop := boundedNowsRow.holds Try.pinned (OpenSpec.ofChange boundedNowsWrong)

/-- 'tidewaiterlaw10.BoundedTrue': WHATEVER THE INPUT: true; the input reads as it did. -/
def boundedTrueSpec : ChangeSpec := { name := "boundedTrue", fn := fun _ => fun
  | [d1, d2] => { results := [.lit (.bool true)], args := [d1, d2] }
  | _ => none }
def boundedTrueRow : OpenClaim := { program := "ytoajlogbdkinkaa", sum := "5a9859b2dcc5ff6b9bc1df58eb366ff1d2442b85fef58ce399a52162f2873e0e", func := "tidewaiter/tidewaiterlaw10.BoundedTrue", spec := "boundedTrue", apart := false }
def BoundedTrueSaid : Prop := boundedTrueRow.holds Try.pinned (OpenSpec.ofChange boundedTrueSpec)

/-- ITS FALSE NEIGHBOUR: 'it returns false'. Refute it at one input. -/
def boundedTrueWrong : ChangeSpec := { name := "boundedTrue", fn := fun _ => fun
  | [d1, d2] => { results := [.lit (.bool false)], args := [d1, d2] }
  | _ => none }
def BoundedTrueWrongFalsely : Prop := boundedTrueRow.holds Try.pinned (OpenSpec.ofChange boundedTrueWrong)

/-- 'tidewaitertop.WholeBound': WHATEVER THE INPUT: true; the input reads as it did. -/
def wholeBoundSpec : ChangeSpec := { name := "wholeBound", fn := fun _ => fun
  | [d1, d2] => { results := [.lit (.bool true)], args := [d1, d2] }
  | _ => none }
def wholeBoundRow : OpenClaim := { program := "ytoajlogbdkinkaa", sum := "5a9859b2dcc5ff6b9bc1df58eb366ff1d2442b85fef58ce399a52162f2873e0e", func := "tidewaiter/tidewaitertop.WholeBound", spec := "wholeBound", apart := false }
def WholeBoundSaid : Prop := wholeBoundRow.holds Try.pinned (OpenSpec.ofChange wholeBoundSpec)

/-- ITS FALSE NEIGHBOUR: 'it returns false'. Refute it at one input. -/
def wholeBoundWrong : ChangeSpec := { name := "wholeBound", fn := fun _ => fun
  | [d1, d2] => { results := [.lit (.bool false)], args := [d1, d2] }
  | _ => none }
def WholeBoundWrongFalsely : Prop := wholeBoundRow.holds Try.pinned (OpenSpec.ofChange wholeBoundWrong)

/- THE SECOND FORM. 'bulk': how many values and letters a reading holds, each counted each time it is reached (what is shared counts as often as it is met; a slice's spare places count too). A statement '..UptoSaid' is the law's where the arguments, and the package variables that the reading takes, are together of bulk at most 1048576: NARROWER than '..Said'. Prove '..Said' where nothing that the law and all that it calls make is longer than what came in: it says more and counts as full. Else prove '..UptoSaid'. A law counts once. -/
mutual
def uptoBulk {H : Type} : DataW H → Nat
  | .lit (.string bytes) => bytes.length + 1
  | .lit _ => 1
  | .nil => 1
  | .ptr d => uptoBulk d + 1
  | .slice elems spare => uptoBulkAll elems + uptoBulkAll spare + 1
  | .agg parts => uptoBulkAll parts + 1
  | .iface _ d => uptoBulk d + 1
  | .map entries => uptoBulkEntries entries + 1
  | .held _ => 1
def uptoBulkAll {H : Type} : List (DataW H) → Nat
  | [] => 0
  | d :: r => uptoBulk d + uptoBulkAll r
def uptoBulkEntries {H : Type} : List (Lit × DataW H) → Nat
  | [] => 0
  | x :: r => uptoBulkEntry x + uptoBulkEntries r
def uptoBulkEntry {H : Type} : Lit × DataW H → Nat
  | (.string bytes, d) => bytes.length + uptoBulk d + 1
  | (_, d) => uptoBulk d + 1
 end
def uptoSmall : (H : Type) → List (DataW H) → Bool := fun _ ds => decide (uptoBulkAll ds ≤ 1048576)
def OpenSpec.upto (s : _root_.Go.ChangeSpec) : _root_.Go.OpenSpec := { _root_.Go.OpenSpec.ofChange s with cond := some uptoSmall }

/-- 'tidewaiterlaw01.SatAdds', WHERE WHAT IT READS IS OF BULK AT MOST 1048576: true; the input reads as it did. -/
def satAddsUptoRow : OpenClaim := { program := "ytoajlogbdkinkaa", sum := "5a9859b2dcc5ff6b9bc1df58eb366ff1d2442b85fef58ce399a52162f2873e0e", func := "tidewaiter/tidewaiterlaw01.SatAdds", spec := "satAdds", apart := false, narrowed := true }
def SatAddsUptoSaid : Prop := satAddsUptoRow.holds Try.pinned (OpenSpec.upto satAddsSpec)

/-- 'tidewaiterlaw01.SatRises', WHERE WHAT IT READS IS OF BULK AT MOST 1048576: true; the input reads as it did. -/
def satRisesUptoRow : OpenClaim := { program := "ytoajlogbdkinkaa", sum := "5a9859b2dcc5ff6b9bc1df58eb366ff1d2442b85fef58ce399a52162f2873e0e", func := "tidewaiter/tidewaiterlaw01.SatRises", spec := "satRises", apart := false, narrowed := true }
def SatRisesUptoSaid : Prop := satRisesUptoRow.holds Try.pinned (OpenSpec.upto satRisesSpec)

/-- 'tidewaiterlaw01.SatSums', WHERE WHAT IT READS IS OF BULK AT MOST 1048576: true; the input reads as it did. -/
def satSumsUptoRow : OpenClaim := { program := "ytoajlogbdkinkaa", sum := "5a9859b2dcc5ff6b9bc1df58eb366ff1d2442b85fef58ce399a52162f2873e0e", func := "tidewaiter/tidewaiterlaw01.SatSums", spec := "satSums", apart := false, narrowed := true }
def SatSumsUptoSaid : Prop := satSumsUptoRow.holds Try.pinned (OpenSpec.upto satSumsSpec)

/-- 'tidewaiterlaw14.ClockGoes', WHERE WHAT IT READS IS OF BULK AT MOST 1048576: true; the input reads as it did. -/
def clockGoesUptoRow : OpenClaim := { program := "ytoajlogbdkinkaa", sum := "5a9859b2dcc5ff6b9bc1df58eb366ff1d2442b85fef58ce399a52162f2873e0e", func := "tidewaiter/tidewaiterlaw14.ClockGoes", spec := "clockGoes", apart := false, narrowed := true }
def ClockGoesUptoSaid : Prop := clockGoesUptoRow.holds Try.pinned (OpenSpec.upto clockGoesSpec)

/-- 'tidewaiterlaw14.ClockParts', WHERE WHAT IT READS IS OF BULK AT MOST 1048576: true; the input reads as it did. -/
def clockPartsUptoRow : OpenClaim := { program := "ytoajlogbdkinkaa", sum := "5a9859b2dcc5ff6b9bc1df58eb366ff1d2442b85fef58ce399a52162f2873e0e", func := "tidewaiter/tidewaiterlaw14.ClockParts", spec := "clockParts", apart := false, narrowed := true }
def ClockPartsUptoSaid : Prop := clockPartsUptoRow.holds Try.pinned (OpenSpec.upto clockPartsSpec)

/-- 'tidewaiterlaw07.RingAt', WHERE WHAT IT READS IS OF BULK AT MOST 1048576: true; the input reads as it did. -/
def ringAtUptoRow : OpenClaim := { program := "ytoajlogbdkinkaa", sum := "5a9859b2dcc5ff6b9bc1df58eb366ff1d2442b85fef58ce399a52162f2873e0e", func := "tidewaiter/tidewaiterlaw07.RingAt", spec := "ringAt", apart := false, narrowed := true }
def RingAtUptoSaid : Prop := ringAtUptoRow.holds Try.pinned (OpenSpec.upto ringAtSpec)

/-- 'tidewaiterlaw09.ClampRises', WHERE WHAT IT READS IS OF BULK AT MOST 1048576: true; the input reads as it did. -/
def clampRisesUptoRow : OpenClaim := { program := "ytoajlogbdkinkaa", sum := "5a9859b2dcc5ff6b9bc1df58eb366ff1d2442b85fef58ce399a52162f2873e0e", func := "tidewaiter/tidewaiterlaw09.ClampRises", spec := "clampRises", apart := false, narrowed := true }
def ClampRisesUptoSaid : Prop := clampRisesUptoRow.holds Try.pinned (OpenSpec.upto clampRisesSpec)

/-- 'tidewaiterlaw09.ClampAgain', WHERE WHAT IT READS IS OF BULK AT MOST 1048576: true; the input reads as it did. -/
def clampAgainUptoRow : OpenClaim := { program := "ytoajlogbdkinkaa", sum := "5a9859b2dcc5ff6b9bc1df58eb366ff1d2442b85fef58ce399a52162f2873e0e", func := "tidewaiter/tidewaiterlaw09.ClampAgain", spec := "clampAgain", apart := false, narrowed := true }
def ClampAgainUptoSaid : Prop := clampAgainUptoRow.holds Try.pinned (OpenSpec.upto clampAgainSpec)

/-- 'tidewaiterlaw07.RingPushes', WHERE WHAT IT READS IS OF BULK AT MOST 1048576: true; the input reads as it did. -/
def ringPushesUptoRow : OpenClaim := { program := "ytoajlogbdkinkaa", sum := "5a9859b2dcc5ff6b9bc1df58eb366ff1d2442b85fef58ce399a52162f2873e0e", func := "tidewaiter/tidewaiterlaw07.RingPushes", spec := "ringPushes", apart := false, narrowed := true }
def RingPushesUptoSaid : Prop := ringPushesUptoRow.holds Try.pinned (OpenSpec.upto ringPushesSpec)

/-- 'tidewaiterlaw10.BoundedNows', WHERE WHAT IT READS IS OF BULK AT MOST 1048576: true; the input reads as it did. -/
def boundedNowsUptoRow : OpenClaim := { program := "ytoajlogbdkinkaa", sum := "5a9859b2dcc5ff6b9bc1df58eb366ff1d2442b85fef58ce399a52162f2873e0e", func := "tidewaiter/tidewaiterlaw10.BoundedNows", spec := "boundedNows", apart := false, narrowed := true }
def BoundedNowsUptoSaid : Prop := boundedNowsUptoRow.holds Try.pinned (OpenSpec.upto boundedNowsSpec)

/-- 'tidewaiterlaw10.BoundedTrue', WHERE WHAT IT READS IS OF BULK AT MOST 1048576: true; the input reads as it did. -/
def boundedTrueUptoRow : OpenClaim := { program := "ytoajlogbdkinkaa", sum := "5a9859b2dcc5ff6b9bc1df58eb366ff1d2442b85fef58ce399a52162f2873e0e", func := "tidewaiter/tidewaiterlaw10.BoundedTrue", spec := "boundedTrue", apart := false, narrowed := true }
def BoundedTrueUptoSaid : Prop := boundedTrueUptoRow.holds Try.pinned (OpenSpec.upto boundedTrueSpec)

/-- 'tidewaitertop.WholeBound', WHERE WHAT IT READS IS OF BULK AT MOST 1048576: true; the input reads as it did. -/
def wholeBoundUptoRow : OpenClaim := { program := "ytoajlogbdkinkaa", sum := "5a9859b2dcc5ff6b9bc1df58eb366ff1d2442b85fef58ce399a52162f2873e0e", func := "tidewaiter/tidewaitertop.WholeBound", spec := "wholeBound", apart := false, narrowed := true }
def WholeBoundUptoSaid : Prop := wholeBoundUptoRow.holds Try.pinned (OpenSpec.upto wholeBoundSpec)

end Rows
end Go.Proofs.Ytoajlogbdkinkaa
