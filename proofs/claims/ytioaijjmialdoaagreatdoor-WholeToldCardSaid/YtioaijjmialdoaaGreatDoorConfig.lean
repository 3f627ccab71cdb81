
/- Rules in words (package config), walked. No condition but the tables and variables of Go's own library. -/
import Derived.Test.YtioaijjmialdoaaGreatDoorChoiceB
import Derived.Test.YtioaijjmialdoaaGreatDoorGenCheck
import Derived.Lib.QuietBelow
namespace Go.Proofs.YtioaijjmialdoaaGreatDoor
set_option maxRecDepth 100000
set_option linter.unusedSimpArgs false
open Go.RowKit
set_option linter.unusedVariables false
set_option linter.unusedSimpArgs false

/-- words: numbers behind the first one -/
def wordsL (l : List Int) : List UInt8 := l.flatMap fun n => 32 :: Lib.itoa n
def lnL (word : List UInt8) (l : List Int) : List UInt8 := word ++ wordsL l ++ [10]
theorem wordsL_snoc (l : List Int) (n : Int) : wordsL (l ++ [n]) = wordsL l ++ 32 :: Lib.itoa n := by unfold wordsL; simp
theorem wordsL_len {l : List Int} (h : ∀ n ∈ l, I64 n) : (wordsL l).length ≤ 22 * l.length := by
  induction l with
  | nil => simp [wordsL]
  | cons n l ih =>
    have h1 := itoa_len (h n (List.mem_cons_self ..))
    have h2 := ih (fun x hx => h x (List.mem_cons_of_mem _ hx))
    unfold wordsL at h2 ⊢
    simp only [List.flatMap_cons, List.length_append, List.length_cons]
    omega
def namesV : Value := .agg #[.string ⟨#[98, 111, 117, 110, 100, 101, 100]⟩, .string ⟨#[109, 97, 114, 107, 101, 100]⟩, .string ⟨#[112, 101, 114, 99, 101, 110, 116]⟩]
end Go.Proofs.YtioaijjmialdoaaGreatDoor
