
/- All that a ring holds: a ring of whole numbers. No condition. -/
import Derived.Test.YtckndjgdfhbgcaaDoorRingIntB
import Derived.Deep.AppendLies
namespace Go.Proofs.YtckndjgdfhbgcaaDoor
set_option maxRecDepth 100000
set_option linter.unusedSimpArgs false
open Go.RowKit
set_option linter.unusedVariables false

end Go.Proofs.YtckndjgdfhbgcaaDoor
