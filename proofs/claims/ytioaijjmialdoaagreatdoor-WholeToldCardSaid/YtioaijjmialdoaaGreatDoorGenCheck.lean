
/- The checks of a rule (gen.Check, tidewaiterref13.Check), walked. No condition. (As in Gen; not to be imported beside it.) -/
import Derived.Test.YtioaijjmialdoaaGreatDoorProg
import Derived.Test.YtioaijjmialdoaaGreatDoorPackA
namespace Go.Proofs.YtioaijjmialdoaaGreatDoor
set_option maxRecDepth 100000
set_option linter.unusedSimpArgs false
open Go.RowKit
set_option linter.unusedVariables false
set_option linter.unusedSimpArgs false

def ruleV (k b p n s : Int) : Value := .agg #[.int .i64 k, .int .i64 b, .int .i64 p, .int .i64 n, .int .i64 s]
def ruleC (k b p n s : Int) : Int :=
  if k = 0 then (if 0 ≤ b then 0 else 7)
  else if k = 1 then (if 0 ≤ s then (if s ≤ 1114111 then 0 else 7) else 7)
  else if k = 2 then (if 0 ≤ p then (if p ≤ 100 then (if 1 ≤ n then (if n ≤ 4096 then 0 else 7) else 7) else 7) else 7)
  else 3
end Go.Proofs.YtioaijjmialdoaaGreatDoor
