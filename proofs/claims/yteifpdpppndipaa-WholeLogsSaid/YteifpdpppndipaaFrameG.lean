
/- The reference of frame.Get, walked. No condition. -/
import Derived.Test.YteifpdpppndipaaFrameGA
namespace Go.Proofs.Yteifpdpppndipaa
set_option maxRecDepth 100000
set_option linter.unusedSimpArgs false
open Go.RowKit
set_option linter.unusedVariables false
set_option linter.unusedSimpArgs false
def gotV (g : Rec × Int × Int) : Value := .agg #[.int .i64 g.1.1, .int .i64 g.1.2.1, .string g.1.2.2, .int .i64 g.2.1, .int .i64 g.2.2]
theorem open_eq (b : ByteArray) (h1 : 0 < b.size) : fOpen b = if kindOk ((b[0]).toNat : Int) = true then
      if vg3 (b.extract 1 b.size) = 0 then ((((b[0]).toNat : Int), vback (vget (bl (b.extract 1 b.size))).1, b.extract (1 + (vget (bl (b.extract 1 b.size))).2.1) b.size), 0) else (zRec, vg3 (b.extract 1 b.size))
    else (zRec, 3) := by
  unfold fOpen vg3
  rw [bl_tail, bl_head b h1]
  split
  · by_cases he : (vget ((bl b).drop 1)).2.2 = 0
    · rw [if_pos he, if_pos (by exact_mod_cast he)]
    · rw [if_neg he, if_neg (by exact_mod_cast he)]
  · rfl
end Go.Proofs.Yteifpdpppndipaa
