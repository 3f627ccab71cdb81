
/- What the functions of sat and of its reference answer. No condition. -/
import Derived.Test.YtioaijjmialdoaaDoorProg
import Derived.Test.YtioaijjmialdoaaDoorLib
import Derived.WalkSpells
import Derived.WalkLawsBesides
import Derived.Deep.QuietTactic
import Derived.BigQuiet
import Derived.Deep.DeepCutAuto
import Derived.Deep.CutBlock
import Derived.Deep.LoopGhost
import Derived.Deep.RegionHeld3
namespace Go.Proofs.YtioaijjmialdoaaDoor
set_option maxRecDepth 100000
set_option linter.unusedSimpArgs false
open Go.RowKit
set_option linter.unusedVariables false

theorem foldl_I64 (xs : List Int) : ∀ a, I64 a → I64 (xs.foldl satAdd a) := by
  induction xs with
  | nil => intro a h; exact h
  | cons x xs ih => intro a h; exact ih _ (I64.satAdd _ _)
end Go.Proofs.YtioaijjmialdoaaDoor
