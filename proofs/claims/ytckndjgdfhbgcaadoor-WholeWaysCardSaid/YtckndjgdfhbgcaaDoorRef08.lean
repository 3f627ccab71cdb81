
/- The reference of layer 8 (hist), walked. No condition. -/
import Derived.Test.YtckndjgdfhbgcaaDoorAppOwn
import Derived.Test.YtckndjgdfhbgcaaDoorHistPure
import Derived.Test.YtckndjgdfhbgcaaDoorSat
namespace Go.Proofs.YtckndjgdfhbgcaaDoor
set_option maxRecDepth 100000
set_option linter.unusedSimpArgs false
open Go.RowKit
set_option linter.unusedVariables false

theorem belowL_snoc (l : List Int) (x n : Int) : belowL (l ++ [x]) n = belowL l n + if x ≤ n then 1 else 0 := by
  unfold belowL; rw [List.countP_append, List.countP_singleton]; simp
theorem belowL_le (l : List Int) (n : Int) : belowL l n ≤ l.length := List.countP_le_length
def leastP (l : List Int) (many : Int) : Int → Bool := fun x => decide (many ≤ (belowL l x : Int))
def percP (l : List Int) (p : Int) : Int → Bool := fun x => decide (p * (l.length : Int) ≤ (belowL l x : Int) * 100)
def without (l : List Int) (n : Int) : List Int := l.erase n
theorem erase_at {l : List Int} {n : Int} {k : Nat} (h1 : ∀ j x, j < k → l[j]? = some x → x ≠ n) (h2 : l[k]? = some n) : l.erase n = l.take k ++ l.drop (k + 1) := by
  induction l generalizing k with
  | nil => simp at h2
  | cons a l ih =>
    cases k with
    | zero => simp at h2; subst h2; simp
    | succ k =>
      have ha := h1 0 a (by omega) rfl
      rw [List.erase_cons_tail (by simpa using ha), ih (k := k) (fun j x hj hx => h1 (j + 1) x (by omega) (by simpa using hx)) (by simpa using h2)]
      rfl
end Go.Proofs.YtckndjgdfhbgcaaDoor
