
/- What the reference's Sum and Seal answer. No condition. -/
import Derived.Test.YteifpdpppndipaaCrcRef
namespace Go.Proofs.Yteifpdpppndipaa
set_option maxRecDepth 100000
set_option linter.unusedSimpArgs false
open Go.RowKit
set_option linter.unusedVariables false
set_option linter.unusedSimpArgs false

def f1 (l : List UInt8) (i : Nat) : Nat → Bool := fun j => if j < i then bitAt l j else false
def f2 (l : List UInt8) (i : Nat) : Nat → Bool := fun j => if j < i then !(bitAt l j) else bitAt l j
theorem f1_zero (l : List UInt8) : f1 l 0 = fun _ => false := by funext j; simp [f1]
theorem f1_succ (l : List UInt8) (i : Nat) : updB (f1 l i) i (bitAt l i) = f1 l (i + 1) := by
  funext j; unfold updB f1
  by_cases h : j = i
  · subst h; simp
  · rw [if_neg h]
    have : (j < i) = (j < i + 1) := by apply propext; omega
    simp only [this]
theorem f2_zero (l : List UInt8) : f1 l (8 * l.length) = f2 l 0 := by
  funext j; unfold f1 f2
  by_cases h : j < 8 * l.length
  · simp [h]
  · simp [h, bitAt_out l j (by omega)]
theorem f2_succ (l : List UInt8) (i : Nat) : updB (f2 l i) i (!(bitAt l i)) = f2 l (i + 1) := by
  funext j; unfold updB f2
  by_cases h : j = i
  · subst h; simp
  · rw [if_neg h]
    have : (j < i) = (j < i + 1) := by apply propext; omega
    simp only [this]
theorem f2_win (l : List UInt8) : win l 0 (f2 l 32) := win_start l _ fun j => rfl
theorem not_nat (b : Bool) : (1 : Int) - (b.toNat : Int) = ((!b).toNat : Int) := by cases b <;> rfl
theorem xor_nat2 (a b : Bool) : ((a.toNat : Int) + (b.toNat : Int)) % 2 = ((a ^^ b).toNat : Int) := by cases a <;> cases b <;> rfl
theorem down_step (x k : Nat) : x / 2 ^ (k + 1) * 2 + (x.testBit k).toNat = x / 2 ^ k := by
  rw [← bit_last, ← bit_next]; omega
theorem csum_bit (l : List UInt8) (k : Nat) (h : k < 32) : (csum l).testBit k = !((creg l).testBit k) := by
  unfold csum
  rw [Nat.testBit_xor]
  have hc : CM.testBit k = decide (k < 32) := by
    have : CM = 2 ^ 32 - 1 := rfl
    rw [this, Nat.testBit_two_pow_sub_one]
  rw [hc]; simp [h]

end Go.Proofs.Yteifpdpppndipaa
