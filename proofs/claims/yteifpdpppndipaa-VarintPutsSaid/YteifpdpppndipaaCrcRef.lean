
/- What the reference's sum answers: a division, bit by bit, is the register's sum. No condition. -/
import Derived.Test.YteifpdpppndipaaCrc
import Derived.Laws.OwnMore
namespace Go.Proofs.Yteifpdpppndipaa
set_option maxRecDepth 100000
set_option linter.unusedSimpArgs false
open Go.RowKit
set_option linter.unusedVariables false
set_option linter.unusedSimpArgs false

/-! ### the plain law -/
def powL : List Nat := [26, 23, 22, 16, 12, 11, 10, 8, 7, 5, 4, 2, 1, 0]
def pw (n : Nat) : Bool := powL.contains n
theorem pw_CP : ∀ j, j < 32 → CP.testBit j = pw (31 - j) := by decide
def bitAt (s : List UInt8) (i : Nat) : Bool := (s.getD (i / 8) 0).toNat.testBit (i % 8)
theorem bitAt_out (s : List UInt8) (i : Nat) (h : 8 * s.length ≤ i) : bitAt s i = false := by
  unfold bitAt
  rw [List.getD_eq_getElem?_getD, List.getElem?_eq_none (by omega)]
  simp
def regF (s : List UInt8) : Nat → Nat
  | 0 => CM
  | i + 1 => cstep (regF s i ^^^ (bitAt s i).toNat)
theorem bitsOf_get (s : List UInt8) : ∀ i, i < 8 * s.length → (bitsOf s)[i]? = some (bitAt s i) := by
  induction s with
  | nil => intro i h; simp at h
  | cons c s ih =>
    intro i h
    rw [bitsOf, List.flatMap_cons]
    by_cases h8 : i < 8
    · rw [List.getElem?_append_left (by rw [byteBits_len]; exact h8)]
      have h0 : i / 8 = 0 := by omega
      have h1 : i % 8 = i := by omega
      unfold bitAt byteBits
      rw [h0, h1]
      simp [h8]
    · rw [List.getElem?_append_right (by rw [byteBits_len]; omega), byteBits_len]
      have := ih (i - 8) (by simp at h; omega)
      rw [bitsOf] at this
      rw [this]
      unfold bitAt
      rw [show i / 8 = (i - 8) / 8 + 1 by omega, show i % 8 = (i - 8) % 8 by omega]
      simp
theorem regF_feed (s : List UInt8) : ∀ i, i ≤ 8 * s.length → regF s i = feed CM ((bitsOf s).take i) := by
  intro i
  induction i with
  | zero => intro _; simp [regF, feed]
  | succ i ih =>
    intro h
    rw [regF, ih (by omega), take_snoc' (bitsOf_get s i (by omega)), feed_append]
    rfl
theorem regF_all (s : List UInt8) : regF s (8 * s.length) = creg s := by
  rw [regF_feed s _ (Nat.le_refl _), List.take_of_length_le (by rw [bitsOf_len]; exact Nat.le_refl _)]
  rfl
theorem regF_lt (s : List UInt8) (i : Nat) : regF s i < 2 ^ 32 := by
  induction i with
  | zero => show CM < 2 ^ 32; decide
  | succ i ih => rw [regF]; exact cstep_lt (Nat.xor_lt_two_pow ih (by cases bitAt s i <;> decide))

/-- The row at round i: the register over the bits to come. -/
def win (s : List UInt8) (i : Nat) (f : Nat → Bool) : Prop := ∀ j, f (i + j) = ((regF s i).testBit j ^^ bitAt s (i + j))
def divOne (i k : Nat) (f : Nat → Bool) : Nat → Bool := fun j => if i < j ∧ j < i + k then f j ^^ pw (32 - (j - i)) else f j
theorem win_start (s : List UInt8) (f : Nat → Bool) (h : ∀ j, f j = if j < 32 then !(bitAt s j) else bitAt s j) : win s 0 f := by
  intro j
  rw [Nat.zero_add, h, regF]
  have hc : CM.testBit j = decide (j < 32) := by
    have : CM = 2 ^ 32 - 1 := rfl
    rw [this, Nat.testBit_two_pow_sub_one]
  rw [hc]
  by_cases hj : j < 32
  · simp [hj]
  · simp [hj]
theorem win_step0 (s : List UInt8) (i : Nat) (f : Nat → Bool) (h : win s i f) (h0 : f i = false) : win s (i + 1) f := by
  have ht := h 0
  rw [Nat.add_zero, h0, Nat.testBit_zero] at ht
  intro j
  have := h (j + 1)
  rw [show i + 1 + j = i + (j + 1) by omega, this, regF, cstep_bit, Nat.testBit_xor, Nat.testBit_xor]
  have hb : (bitAt s i).toNat.testBit (j + 1) = false := by cases bitAt s i <;> simp [Nat.testBit_succ]
  have hz : (bitAt s i).toNat.testBit 0 = bitAt s i := by cases bitAt s i <;> rfl
  rw [hb, hz, Nat.testBit_zero]
  rw [← ht]
  simp
theorem win_step1 (s : List UInt8) (i : Nat) (f : Nat → Bool) (h : win s i f) (h1 : f i = true) : win s (i + 1) (divOne i 33 f) := by
  have ht := h 0
  rw [Nat.add_zero, h1, Nat.testBit_zero] at ht
  intro j
  have := h (j + 1)
  rw [show i + 1 + j = i + (j + 1) by omega, regF, cstep_bit, Nat.testBit_xor, Nat.testBit_xor]
  have hb : (bitAt s i).toNat.testBit (j + 1) = false := by cases bitAt s i <;> simp [Nat.testBit_succ]
  have hz : (bitAt s i).toNat.testBit 0 = bitAt s i := by cases bitAt s i <;> rfl
  rw [hb, hz, Nat.testBit_zero, ← ht]
  unfold divOne
  by_cases hj : j < 32
  · rw [if_pos (by omega), this, pw_CP j hj, show 32 - (i + (j + 1) - i) = 31 - j by omega]
    cases (regF s i).testBit (j + 1) <;> cases bitAt s (i + (j + 1)) <;> cases pw (31 - j) <;> rfl
  · rw [if_neg (by omega), this, CP_bit (by omega)]
    simp
theorem divOne_one (i : Nat) (f : Nat → Bool) : divOne i 1 f = f := by
  funext j; unfold divOne; rw [if_neg (by omega)]
def updB (f : Nat → Bool) (i : Nat) (b : Bool) : Nat → Bool := fun j => if j = i then b else f j
theorem divOne_succ (i k : Nat) (f : Nat → Bool) (hk : 1 ≤ k) : updB (divOne i k f) (i + k) (f (i + k) ^^ pw (32 - k)) = divOne i (k + 1) f := by
  funext j
  unfold updB divOne
  by_cases hj : j = i + k
  · rw [if_pos hj, if_pos (by omega), hj, show i + k - i = k by omega]
  · rw [if_neg hj]
    by_cases h2 : i < j ∧ j < i + k
    · rw [if_pos h2, if_pos (by omega)]
    · rw [if_neg h2, if_neg (by omega)]
theorem divOne_at (i k : Nat) (f : Nat → Bool) : divOne i k f (i + k) = f (i + k) := by unfold divOne; rw [if_neg (by omega)]

/-! ### the row's cells -/
def bcells (f : Nat → Bool) (m : Nat) : Array Value := ((List.range m).map fun i => Value.int .i64 ((f i).toNat : Int)).toArray
theorem bcells_size (f : Nat → Bool) (m : Nat) : (bcells f m).size = m := by simp [bcells]
theorem bcells_at (f : Nat → Bool) {m i : Nat} (h : i < m) : (bcells f m)[i]? = some (.int .i64 ((f i).toNat : Int)) := by
  unfold bcells
  simp [h]
theorem bcells_set (f : Nat → Bool) {m i : Nat} (h : i < m) (b : Bool) : (bcells f m).setIfInBounds i (.int .i64 (b.toNat : Int)) = bcells (updB f i b) m := by
  unfold bcells
  rw [List.setIfInBounds_toArray]
  congr 1
  apply List.ext_getElem (by simp)
  intro j h1 h2
  simp only [List.length_set, List.length_map, List.length_range] at h1
  rw [List.getElem_set]
  by_cases hi : i = j
  · subst hi; simp [updB]
  · rw [if_neg hi]
    simp only [List.getElem_map, List.getElem_range]
    have : updB f i b j = f j := by unfold updB; rw [if_neg (Ne.symm hi)]
    rw [this]
theorem bcells_congr {f g : Nat → Bool} {m : Nat} (h : ∀ i, i < m → f i = g i) : bcells f m = bcells g m := by
  unfold bcells
  congr 1
  apply List.map_congr_left
  intro i hi
  rw [h i (List.mem_range.1 hi)]
theorem bcells_made (m : Nat) : madeCells #[Value.int .i64 0] m = bcells (fun _ => false) m := by
  apply Array.ext'
  rw [toList_madeCells_one]
  unfold bcells
  simp only [Bool.toNat_false, Int.natCast_zero]
  rw [List.map_const', List.length_range]
/-! ### the walks -/
def powV : Array Value := #[Value.int .i64 26, Value.int .i64 23, Value.int .i64 22, Value.int .i64 16, Value.int .i64 12, Value.int .i64 11, Value.int .i64 10, Value.int .i64 8, Value.int .i64 7, Value.int .i64 5, Value.int .i64 4, Value.int .i64 2, Value.int .i64 1, Value.int .i64 0]
theorem powV_at (k c : Nat) (h : powL[k]? = some c) : powV[k]? = some (Value.int .i64 (c : Int)) := by
  have : powV = (powL.map fun (x : Nat) => Value.int .i64 (x : Int)).toArray := rfl
  rw [this, List.getElem?_toArray, List.getElem?_map, h]
  rfl
theorem bit_next (c k : Nat) : (c / 2 ^ k) / 2 = c / 2 ^ (k + 1) := by rw [Nat.pow_succ, Nat.div_div_eq_div_mul]
theorem bit_last (c k : Nat) : (c / 2 ^ k) % 2 = (c.testBit k).toNat := by
  rw [Nat.testBit_eq_decide_div_mod_eq]
  rcases Nat.mod_two_eq_zero_or_one (c / 2 ^ k) with h | h <;> rw [h] <;> rfl
end Go.Proofs.Yteifpdpppndipaa
