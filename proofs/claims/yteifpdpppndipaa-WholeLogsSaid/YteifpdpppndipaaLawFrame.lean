
/- The laws of layer 5 (frame), walked: what the package says of itself. No condition. -/
import Derived.Test.YteifpdpppndipaaFrameE
import Derived.Test.YteifpdpppndipaaFrameG
import Derived.Test.YteifpdpppndipaaOpen
namespace Go.Proofs.Yteifpdpppndipaa
set_option maxRecDepth 100000
set_option linter.unusedSimpArgs false
open Go.RowKit
set_option linter.unusedVariables false
set_option linter.unusedSimpArgs false

theorem fFull_size (r : Rec) : (fFull r).size = (vput (recBody r).size).length + (recBody r).size + 4 := by
  unfold fFull; rw [size_bl, bl_app, List.length_append, bl_str, ← size_bl, cseal_size]; omega
theorem size_app (a b : ByteArray) : (a ++ b).size = a.size + b.size := by rw [size_bl, bl_app, List.length_append, ← size_bl, ← size_bl]
theorem speaks5_size : (fFull (1, -1, ⟨#[120]⟩)).size = 8 := by
  have h1 : vput (vfold (1, -1, (⟨#[120]⟩ : ByteArray)).2.1) = [1] := by
    rw [show vfold (1, -1, (⟨#[120]⟩ : ByteArray)).2.1 = 1 from by decide, vput]; rfl
  have h2 : (recBody (1, -1, ⟨#[120]⟩)).size = 3 := by rw [recBody_size, h1]; rfl
  rw [fFull_size, h2, vput]; rfl
theorem speaks5_check : fCheck (1, -1, ⟨#[120]⟩) = 0 := by
  have h1 : vput (vfold (1, -1, (⟨#[120]⟩ : ByteArray)).2.1) = [1] := by
    rw [show vfold (1, -1, (⟨#[120]⟩ : ByteArray)).2.1 = 1 from by decide, vput]; rfl
  have h2 : (recBody (1, -1, ⟨#[120]⟩)).size = 3 := by rw [recBody_size, h1]; rfl
  unfold fCheck; rw [h2]; rfl
theorem speaks5_get : fGet ⟨#[1]⟩ = (zRec, 0, 4) := by decide
theorem cells_rec {w w' : World} {T : TypeId} {x y z : Value} (hb : Below (w.alloc (.cells #[x, y, z] T)).heap.size (w.alloc (.cells #[x, y, z] T)) w') :
    w.heap.size < w'.heap.size ∧ w'.cell? ⟨w.heap.size, 0, none⟩ = some x ∧ w'.cell? ⟨w.heap.size, 1, none⟩ = some y ∧ w'.cell? ⟨w.heap.size, 2, none⟩ = some z := by
  have h := (Blk.new_ w T #[x, y, z]).below hb
  exact ⟨h.lt, h.cell 0, h.cell 1, h.cell 2⟩
end Go.Proofs.Yteifpdpppndipaa
