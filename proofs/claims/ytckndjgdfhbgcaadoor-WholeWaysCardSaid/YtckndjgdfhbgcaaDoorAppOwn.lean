
/- append(row, piece...) beside the rows of structs (the laws lie in App). No condition. -/
import Derived.Test.YtckndjgdfhbgcaaDoorSliceRow
import Derived.Test.YtckndjgdfhbgcaaDoorApp
namespace Go.Proofs.YtckndjgdfhbgcaaDoor
set_option maxRecDepth 100000
set_option linter.unusedSimpArgs false
end Go.Proofs.YtckndjgdfhbgcaaDoor
