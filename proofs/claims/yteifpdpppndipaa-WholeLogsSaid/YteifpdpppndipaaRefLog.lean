
/- The reference of log.Parse, walked. No condition. -/
import Derived.Test.YteifpdpppndipaaLog
import Derived.Test.YteifpdpppndipaaFrameG
namespace Go.Proofs.Yteifpdpppndipaa
set_option maxRecDepth 100000
set_option linter.unusedSimpArgs false
open Go.RowKit
set_option linter.unusedVariables false
set_option linter.unusedSimpArgs false

def wCell (w : World) (b : Nat) : Nat := match w.cell? ⟨b, 1, none⟩ with | some (.int _ n) => n.toNat | _ => 0
theorem wCell_eq {w : World} {b : Nat} {T : TypeId} {v e : Value} {n : Nat} (h : Blk w b T #[v, .int .i64 (n : Int), e]) : wCell w b = n := by
  have h1 : w.cell? ⟨b, 1, none⟩ = some (.int .i64 (n : Int)) := by simpa using h.cell 1
  unfold wCell; rw [h1]; simp
theorem msetL {w W : World} {g i : Nat} {u : Value} (h : Mod (fun k => k = g) w W) : Mod (fun k => k = g) w (W.setCell ⟨g, i, none⟩ u) := h.setCell (fun _ => rfl) u
end Go.Proofs.Yteifpdpppndipaa
