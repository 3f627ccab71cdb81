
/- There and back: the bytes of any records, cut anywhere: the law, walked. No condition. -/
import Derived.Test.YteifpdpppndipaaLawLog
namespace Go.Proofs.Yteifpdpppndipaa
set_option maxRecDepth 100000
set_option linter.unusedSimpArgs false
open Go.RowKit
set_option linter.unusedVariables false
set_option linter.unusedSimpArgs false

theorem bErr_snoc {l : List Rec} {i : Nat} {r : Rec} (h : l[i]? = some r) : bErr (l.take (i + 1)) = if bErr (l.take i) = 0 then fCheck r else bErr (l.take i) := by
  rw [take_snoc' h]
  have : ∀ a : List Rec, bErr (a ++ [r]) = if bErr a = 0 then fCheck r else bErr a := by
    intro a
    induction a with
    | nil => show (if fCheck r = 0 then bErr [] else fCheck r) = _; simp [bErr]; intro h; exact h.symm
    | cons x a ih =>
      by_cases hx : fCheck x = 0
      · have e1 : bErr (x :: a) = bErr a := by rw [bErr, if_pos hx]
        have e2 : bErr (x :: a ++ [r]) = bErr (a ++ [r]) := by rw [List.cons_append, bErr, if_pos hx]
        rw [e1, e2]; exact ih
      · have e1 : bErr (x :: a) = fCheck x := by rw [bErr, if_neg hx]
        have e2 : bErr (x :: a ++ [r]) = fCheck x := by rw [List.cons_append, bErr, if_neg hx]
        rw [e1, e2, if_neg hx]
  exact this _
theorem bCat_size_small {l : List Rec} (h : ∀ r ∈ l, I64 r.2.1 ∧ r.2.2.size ≤ 100) : (bCat l).size ≤ l.length * 200 := by
  induction l with
  | nil => show (0 : Nat) ≤ _; omega
  | cons r l ih =>
    obtain ⟨hI, hx⟩ := h r (List.mem_cons_self ..)
    have := ih (fun x hx => h x (List.mem_cons_of_mem _ hx))
    show (fFull r ++ bCat l).size ≤ _
    rw [size_app]
    have h1 := fFull_size r
    have h2 := recBody_size r
    have h3 := vput10 (vfold r.2.1) (vfold_lt hI)
    have h4 := vput10 (recBody r).size (by omega)
    simp only [List.length_cons]
    omega
end Go.Proofs.Yteifpdpppndipaa
