
/- What the functions of sat and of its reference answer. No condition. -/
import Derived.Test.YtgbcnlchpolcbaaProg
import Derived.Test.YtgbcnlchpolcbaaLib
import Derived.WalkSpells
import Derived.WalkLawsBesides
import Derived.Deep.QuietTactic
import Derived.BigQuiet
import Derived.Deep.DeepCutAuto
import Derived.Deep.CutBlock
import Derived.Deep.LoopGhost
import Derived.Deep.RegionHeld3
namespace Go.Proofs.Ytgbcnlchpolcbaa
set_option maxRecDepth 100000
set_option linter.unusedSimpArgs false
open Go.RowKit
set_option linter.unusedVariables false

theorem sat_Add (a b : Int) (w : World) (ha : I64 a) (hb : I64 b) :
    Calls Try.prog 20 #[.int .i64 a, .int .i64 b] w fun e w' => e = .returned (.int .i64 (satAdd a b)) ∧ w = w' := by
  obtain ⟨ha1, ha2⟩ := ha
  obtain ⟨hb1, hb2⟩ := hb
  go_enter Try.func20, Try.ntmps20
  go_wp2
  all_goals (go_ret; exact ⟨ret_int (by unfold satAdd; unfold wrap64 at *; split <;> (try split) <;> omega), rfl⟩)
theorem foldl_I64 (xs : List Int) : ∀ a, I64 a → I64 (xs.foldl satAdd a) := by
  induction xs with
  | nil => intro a h; exact h
  | cons x xs ih => intro a h; exact ih _ (I64.satAdd _ _)
end Go.Proofs.Ytgbcnlchpolcbaa
