
/- What the functions of sat and of its reference answer. No condition. -/
import Derived.Test.YtcgonoepndlofaaProg
import Derived.Test.YtcgonoepndlofaaLib
import Derived.WalkSpells
import Derived.WalkLawsBesides
import Derived.Deep.QuietTactic
import Derived.BigQuiet
import Derived.Deep.DeepCutAuto
import Derived.Deep.CutBlock
import Derived.Deep.LoopGhost
import Derived.Deep.RegionHeld3
namespace Go.Proofs.Ytcgonoepndlofaa
set_option maxRecDepth 100000
set_option linter.unusedSimpArgs false
open Go.RowKit
set_option linter.unusedVariables false

theorem sat_Add (a b : Int) (w : World) (ha : I64 a) (hb : I64 b) :
    Calls Try.prog 66 #[.int .i64 a, .int .i64 b] w fun e w' => e = .returned (.int .i64 (satAdd a b)) ∧ w = w' := by
  obtain ⟨ha1, ha2⟩ := ha
  obtain ⟨hb1, hb2⟩ := hb
  go_enter Try.func66, Try.ntmps66
  go_wp2
  all_goals (go_ret; exact ⟨ret_int (by unfold satAdd; unfold wrap64 at *; split <;> (try split) <;> omega), rfl⟩)
theorem sat_Sub (a b : Int) (w : World) (ha : I64 a) (hb : I64 b) :
    Calls Try.prog 57 #[.int .i64 a, .int .i64 b] w fun e w' => e = .returned (.int .i64 (satSub a b)) ∧ w = w' := by
  obtain ⟨ha1, ha2⟩ := ha
  obtain ⟨hb1, hb2⟩ := hb
  go_enter Try.func57, Try.ntmps57
  go_wp2
  all_goals (go_ret; exact ⟨ret_int (by unfold satSub; unfold wrap64 at *; split <;> (try split) <;> omega), rfl⟩)
theorem ref_Add (a b : Int) (w : World) (ha : I64 a) (hb : I64 b) :
    Calls Try.prog 94 #[.int .i64 a, .int .i64 b] w fun e w' => e = .returned (.int .i64 (satAdd a b)) ∧ w = w' := by
  obtain ⟨ha1, ha2⟩ := ha
  obtain ⟨hb1, hb2⟩ := hb
  go_enter Try.func94, Try.ntmps94
  go_wp2
  all_goals (go_ret; exact ⟨ret_int (by unfold satAdd; (try unfold wrap64 at *); split <;> (try split) <;> omega), rfl⟩)
theorem ref_Sub (a b : Int) (w : World) (ha : I64 a) (hb : I64 b) :
    Calls Try.prog 79 #[.int .i64 a, .int .i64 b] w fun e w' => e = .returned (.int .i64 (satSub a b)) ∧ w = w' := by
  obtain ⟨ha1, ha2⟩ := ha
  obtain ⟨hb1, hb2⟩ := hb
  by_cases hm : b = -9223372036854775808
  · have h1 : (b == -9223372036854775808) = true := by simpa using hm
    go_enter Try.func79, Try.ntmps79
    go_wp2
    all_goals (go_ret; exact ⟨ret_int (by unfold satSub; (try unfold wrap64 at *); split <;> (try split) <;> omega), rfl⟩)
  · have h1 : (b == -9223372036854775808) = false := by simpa using hm
    have hs : satAdd a (-b) = satSub a b := by unfold satAdd satSub; rfl
    have Hs := hid' hs
    clear hs
    go_enter Try.func79, Try.ntmps79
    go_wp2_with fail
    refine (ref_Add a (-b) _ ⟨ha1, ha2⟩ ⟨by omega, by omega⟩).mono ?_
    rintro e w' ⟨rfl, rfl⟩
    go_wp2
    go_ret
    exact ⟨ret_int Hs.out, rfl⟩
theorem foldl_I64 (xs : List Int) : ∀ a, I64 a → I64 (xs.foldl satAdd a) := by
  induction xs with
  | nil => intro a h; exact h
  | cons x xs ih => intro a h; exact ih _ (I64.satAdd _ _)
end Go.Proofs.Ytcgonoepndlofaa
