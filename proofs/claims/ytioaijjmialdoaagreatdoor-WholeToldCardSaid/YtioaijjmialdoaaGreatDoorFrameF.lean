
/- The reference of frame.Get: what its tests come to, as a plain law. No program. -/
import Derived.Test.YtioaijjmialdoaaGreatDoorPackV
namespace Go.Proofs.YtioaijjmialdoaaGreatDoor
set_option maxRecDepth 100000
set_option linter.unusedSimpArgs false
open Go.RowKit
set_option linter.unusedVariables false
theorem ext_ext (s : ByteArray) (m q : Nat) (h : m + q + 4 ≤ s.size) : (s.extract m (m + q + 4)).extract 0 q = s.extract m (m + q) := by
  apply bl_inj
  rw [bl_ext, bl_ext, bl_ext, List.drop_zero, Nat.sub_zero, List.take_take, show min q (m + q + 4 - m) = q by omega, show m + q - m = q by omega]
theorem copen_ext (s : ByteArray) (m q : Nat) (h : m + q + 4 ≤ s.size) :
    copen (s.extract m (m + q + 4)) = if cseal (s.extract m (m + q)) = s.extract m (m + q + 4) then some (s.extract m (m + q)) else none := by
  have hx : (s.extract m (m + q + 4)).size = q + 4 := by simp; omega
  unfold copen
  rw [if_neg (by omega), hx, Nat.add_sub_cancel, ext_ext s m q h]
end Go.Proofs.YtioaijjmialdoaaGreatDoor
