
/- A log's bytes as records (log.Parse), walked. No condition. -/
import Derived.Test.YtioaijjmialdoaaGreatDoorLogPure
import Derived.Test.YtioaijjmialdoaaGreatDoorPackV
import Derived.Test.YtioaijjmialdoaaGreatDoorPackA
namespace Go.Proofs.YtioaijjmialdoaaGreatDoor
set_option maxRecDepth 100000
set_option linter.unusedSimpArgs false
open Go.RowKit
set_option linter.unusedVariables false
set_option linter.unusedSimpArgs false

end Go.Proofs.YtioaijjmialdoaaGreatDoor
