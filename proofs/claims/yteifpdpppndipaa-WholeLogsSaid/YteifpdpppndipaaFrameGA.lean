
/- The reference of frame.Get behind its sum, walked. No condition. -/
import Derived.Test.YteifpdpppndipaaFrameD
import Derived.Test.YteifpdpppndipaaFrameF
namespace Go.Proofs.Yteifpdpppndipaa
set_option maxRecDepth 100000
set_option linter.unusedSimpArgs false
open Go.RowKit
set_option linter.unusedVariables false
set_option linter.unusedSimpArgs false
theorem results_cell1 {fn : Func} {p : Tmp} {ty : TypeId} (h : fn.results = #[.cell p ty]) (tmps : Array Value) (P : Program) (w : World) :
    (results fn tmps).run P w = ((asAddr (tmps.getD p undef)).run P w).andThen fun a w₁ => (loadVar ty a).run P w₁ := by
  simp only [results, h]
  simp [Sem.run_bind, Result.andThen]
theorem below_drew' {b : Nat} {w W : World} (h : Below b w W) : Below b w W.drew := ⟨h.os, h.tape, h.output, h.size, h.block⟩
end Go.Proofs.Yteifpdpppndipaa
