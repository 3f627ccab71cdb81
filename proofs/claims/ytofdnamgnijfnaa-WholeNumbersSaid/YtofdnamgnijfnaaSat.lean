
/- What the functions of sat and of its reference answer. No condition. -/
import Derived.Test.YtofdnamgnijfnaaProg
import Derived.Test.YtofdnamgnijfnaaLib
import Derived.WalkSpells
import Derived.WalkLawsBesides
import Derived.Deep.QuietTactic
import Derived.BigQuiet
import Derived.Deep.DeepCutAuto
import Derived.Deep.CutBlock
import Derived.Deep.LoopGhost
import Derived.Deep.RegionHeld3
namespace Go.Proofs.Ytofdnamgnijfnaa
open Go.RowKit
set_option linter.unusedVariables false

theorem sat_Add (a b : Int) (w : World) (ha : I64 a) (hb : I64 b) :
    Calls Try.prog 40 #[.int .i64 a, .int .i64 b] w fun e w' => e = .returned (.int .i64 (satAdd a b)) ∧ w = w' := by
  obtain ⟨ha1, ha2⟩ := ha
  obtain ⟨hb1, hb2⟩ := hb
  go_enter Try.func40, Try.ntmps40
  go_wp2
  all_goals (go_ret; exact ⟨ret_int (by unfold satAdd; unfold wrap64 at *; split <;> (try split) <;> omega), rfl⟩)
theorem foldl_I64 (xs : List Int) : ∀ a, I64 a → I64 (xs.foldl satAdd a) := by
  induction xs with
  | nil => intro a h; exact h
  | cons x xs ih => intro a h; exact ih _ (I64.satAdd _ _)
theorem sat_Sum (A : Option Addr) (c : Nat) (xs : List Int) (w : World) (h : Rd w A (xs.map (.int .i64))) (hx : ∀ x ∈ xs, I64 x) (hn : xs.length ≤ 9223372036854775807) :
    Calls Try.prog 41 #[.slice A xs.length c] w fun e w' => e = .returned (.int .i64 (xs.foldl satAdd 0)) ∧ w = w' := by
  have H := hid' h
  have HX := hid' hx
  clear h hx
  go_enter Try.func41, Try.ntmps41
  go_wp2
  go_loop [3, 8] (fun s i => ∃ k : Nat, k ≤ xs.length ∧ i = .int .i64 k ∧ s = .int .i64 ((xs.take k).foldl satAdd 0)) (fun _ i => xs.length - (intOf i).toNat)
  case atStart => exact ⟨0, Nat.zero_le _, rfl, rfl⟩
  case round =>
    obtain ⟨k, hk, rfl, rfl⟩ := hrel
    by_cases hlt : k < xs.length
    · obtain ⟨ad, x, rfl, hx, hc⟩ := Rd.at_ H.out hlt
      have hxi := HX.out x (mem_of_get hx)
      have hs : (xs.take (k + 1)).foldl satAdd 0 = satAdd ((xs.take k).foldl satAdd 0) x := by rw [take_snoc' hx]; simp
      have HS := hid' hs
      have HG := hid' (foldl_I64 (xs.take k) 0 (by unfold I64; omega))
      clear hs hx
      go_wp2_with fail
      refine (sat_Add _ x _ HG.out hxi).mono ?_
      rintro e w' ⟨rfl, rfl⟩
      go_wp2
      go_round
      case rel => exact ⟨k + 1, by omega, by go_num, by rw [HS.out]⟩
      case measure => simp [intOf]; omega
    · go_wp2
      go_ret
      exact ⟨ret_int (by rw [List.take_of_length_le (by omega)]), rfl⟩

end Go.Proofs.Ytofdnamgnijfnaa
