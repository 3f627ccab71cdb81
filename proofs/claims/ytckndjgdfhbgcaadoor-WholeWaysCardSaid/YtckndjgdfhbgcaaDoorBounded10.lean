
/- The reference of layer 10, and its times as a plain law. No condition. -/
import Derived.Test.YtckndjgdfhbgcaaDoorBounded
namespace Go.Proofs.YtckndjgdfhbgcaaDoor
set_option maxRecDepth 100000
set_option linter.unusedSimpArgs false
open Go.RowKit
set_option linter.unusedVariables false

def mostOf (xs : List Int) : Int := xs.foldl max NEV
def nowOf (xs : List Int) (b : Int) : Int := if xs = [] then NEV else bAfter (mostOf xs) b
theorem mostOf_snoc (xs : List Int) (x : Int) : mostOf (xs ++ [x]) = max (mostOf xs) x := by simp [mostOf]
theorem mostOf_I64 (xs : List Int) (h : ∀ x ∈ xs, I64 x) : I64 (mostOf xs) := by
  have : ∀ (xs : List Int) (a : Int), I64 a → (∀ x ∈ xs, I64 x) → I64 (xs.foldl max a) := by
    intro xs
    induction xs with
    | nil => intro a h _; exact h
    | cons x xs ih =>
      intro a h h2
      refine ih _ ?_ (fun y hy => h2 y (List.mem_cons_of_mem _ hy))
      have := h2 x (List.mem_cons_self ..)
      unfold I64 at *; omega
  exact this xs NEV I64.nev h
theorem bAfter_mono {a a' : Int} (b : Int) (h : a ≤ a') : bAfter a b ≤ bAfter a' b := by unfold bAfter satSub; repeat' split <;> omega
theorem nev_le {a : Int} (h : I64 a) : NEV ≤ a := h.1
theorem nowOf_snoc (xs : List Int) (x b : Int) : max (nowOf xs b) (bAfter (max (mostOf xs) x) b) = nowOf (xs ++ [x]) b := by
  have h2 : nowOf (xs ++ [x]) b = bAfter (max (mostOf xs) x) b := by unfold nowOf; rw [if_neg (by simp), mostOf_snoc]
  rw [h2]
  unfold nowOf
  by_cases h : xs = []
  · rw [if_pos h]; exact Int.max_eq_right (nev_le (I64.bAfter _ _))
  · rw [if_neg h]; exact Int.max_eq_right (bAfter_mono b (by omega))
theorem nowOf_le (xs : List Int) (x b : Int) : nowOf xs b ≤ nowOf (xs ++ [x]) b := by rw [← nowOf_snoc]; omega
theorem nowOf_I64 (xs : List Int) (b : Int) : I64 (nowOf xs b) := by unfold nowOf; split; exact I64.nev; exact I64.bAfter _ _

end Go.Proofs.YtckndjgdfhbgcaaDoor
