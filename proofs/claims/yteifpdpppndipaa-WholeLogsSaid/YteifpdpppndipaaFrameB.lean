
/- frame.Encode and its reference. No condition. -/
import Derived.Test.YteifpdpppndipaaFrame
namespace Go.Proofs.Yteifpdpppndipaa
set_option maxRecDepth 100000
set_option linter.unusedSimpArgs false
open Go.RowKit
set_option linter.unusedVariables false
set_option linter.unusedSimpArgs false

theorem kindOk_two {k : Int} (h : kindOk k = true) : k = 1 ∨ k = 2 := by unfold kindOk at h; simpa using h
theorem kindOk_not {k : Int} (h : ¬ kindOk k = true) : k ≠ 1 ∧ k ≠ 2 := by
  refine ⟨fun e => h (by rw [e]; rfl), fun e => h (by rw [e]; rfl)⟩
theorem recBody_le (r : Rec) (ht : I64 r.2.1) : (recBody r).size ≤ 11 + r.2.2.size := by
  have := recBody_size r
  have := vput10 _ (vfold_lt ht)
  omega
end Go.Proofs.Yteifpdpppndipaa
