
/- Numbers as bytes to the base 128, as a plain law: what is written is read again, and what is read is just what is written. No program. -/
import Derived.Test.YteifpdpppndipaaLib
namespace Go.Proofs.Yteifpdpppndipaa
set_option maxRecDepth 100000
set_option linter.unusedSimpArgs false
set_option linter.unusedVariables false

/-- A number's digits, the lowest first. -/
def vput (n : Nat) : List UInt8 := if h : n < 128 then [UInt8.ofNat n] else UInt8.ofNat (n % 128 + 128) :: vput (n / 128)
decreasing_by omega
theorem vput_lt {n : Nat} (h : n < 128) : vput n = [UInt8.ofNat n] := by rw [vput]; simp [h]
theorem vput_ge {n : Nat} (h : ¬ n < 128) : vput n = UInt8.ofNat (n % 128 + 128) :: vput (n / 128) := by rw [vput]; simp [h]
theorem vput_len (k : Nat) : ∀ n, n < 128 ^ (k + 1) → (vput n).length ≤ k + 1 := by
  induction k with
  | zero => intro n h; rw [vput_lt (by omega)]; simp
  | succ k ih =>
    intro n h
    by_cases hn : n < 128
    · rw [vput_lt hn]; simp
    · rw [vput_ge hn, List.length_cons]
      have := ih (n / 128) (by rw [Nat.pow_succ] at h; omega)
      omega
theorem vput_pos (n : Nat) : 0 < (vput n).length := by rw [vput]; split <;> simp

/-- The number with which bytes go on from place i, n being what was read: the number, how many bytes, 0; or 0, 0 and why. -/
def vgetFrom (i n : Nat) : List UInt8 → Nat × Nat × Nat
  | [] => (0, 0, 1)
  | c :: rest => if 9 < i ∨ (i = 9 ∧ 1 < c.toNat % 128) then (0, 0, 2)
    else if c.toNat < 128 then (if c.toNat = 0 ∧ 0 < i then (0, 0, 2) else (n + c.toNat % 128 * 128 ^ i, i + 1, 0))
    else vgetFrom (i + 1) (n + c.toNat % 128 * 128 ^ i) rest
def vget (s : List UInt8) : Nat × Nat × Nat := vgetFrom 0 0 s

theorem vgetFrom_err (s : List UInt8) : ∀ i n, (vgetFrom i n s).2.2 ≠ 0 → (vgetFrom i n s).1 = 0 ∧ (vgetFrom i n s).2.1 = 0 := by
  induction s with
  | nil => intro i n _; exact ⟨rfl, rfl⟩
  | cons c rest ih =>
    intro i n h
    rw [vgetFrom] at h ⊢
    by_cases h1 : 9 < i ∨ (i = 9 ∧ 1 < c.toNat % 128)
    · rw [if_pos h1]; exact ⟨rfl, rfl⟩
    · rw [if_neg h1] at h ⊢
      by_cases h2 : c.toNat < 128
      · rw [if_pos h2] at h ⊢
        by_cases h3 : c.toNat = 0 ∧ 0 < i
        · rw [if_pos h3]; exact ⟨rfl, rfl⟩
        · rw [if_neg h3] at h; exact absurd rfl h
      · rw [if_neg h2] at h ⊢; exact ih _ _ h
theorem vgetFrom_kind (s : List UInt8) : ∀ i n, (vgetFrom i n s).2.2 = 0 ∨ (vgetFrom i n s).2.2 = 1 ∨ (vgetFrom i n s).2.2 = 2 := by
  induction s with
  | nil => intro i n; simp [vgetFrom]
  | cons c rest ih =>
    intro i n
    unfold vgetFrom
    split
    · simp
    · split
      · split <;> simp
      · exact ih _ _
theorem pow9 : (128 : Nat) ^ 9 = 9223372036854775808 := by decide
theorem pow_le9 {i : Nat} (h : i ≤ 9) : 128 ^ i ≤ 9223372036854775808 := by rw [← pow9]; exact Nat.pow_le_pow_right (by omega) h

theorem vgetFrom_lt (s : List UInt8) : ∀ i n, n < 128 ^ i → (vgetFrom i n s).1 < 18446744073709551616 := by
  induction s with
  | nil => intro i n _; simp [vgetFrom]
  | cons c rest ih =>
    intro i n h
    unfold vgetFrom
    split
    · simp
    · rename_i hi
      have hi9 : i ≤ 9 := by omega
      have hp := pow_le9 hi9
      have hn' : n + c.toNat % 128 * 128 ^ i < 128 ^ (i + 1) := by
        rw [Nat.pow_succ]
        have : c.toNat % 128 * 128 ^ i ≤ 127 * 128 ^ i := Nat.mul_le_mul_right _ (by omega)
        omega
      split
      · split
        · simp
        · show n + c.toNat % 128 * 128 ^ i < 18446744073709551616
          by_cases h9 : i = 9
          · subst h9
            have : c.toNat % 128 * 128 ^ 9 ≤ 1 * 128 ^ 9 := Nat.mul_le_mul_right _ (by omega)
            rw [pow9] at *
            omega
          · have : 128 ^ (i + 1) ≤ 9223372036854775808 := pow_le9 (by omega)
            omega
      · exact ih _ _ hn'

/-- What is read is just what is written. -/
theorem vgetFrom_one (s : List UInt8) : ∀ i n m k, vgetFrom i n s = (m, k, 0) → ∃ q, m = n + q * 128 ^ i ∧ vput q = s.take (k - i) ∧ i < k ∧ k - i ≤ s.length ∧ (0 < i → 0 < q) := by
  induction s with
  | nil => intro i n m k h; simp [vgetFrom] at h
  | cons c rest ih =>
    intro i n m k h
    have hc := c.toNat_lt
    unfold vgetFrom at h
    split at h
    · simp at h
    · split at h
      · rename_i hlt
        split at h
        · simp at h
        · rename_i hz
          simp only [Prod.mk.injEq, and_true] at h
          obtain ⟨rfl, rfl⟩ := h
          refine ⟨c.toNat, by rw [Nat.mod_eq_of_lt hlt], ?_, by omega, by simp, fun hi => by omega⟩
          rw [vput_lt hlt, show i + 1 - i = 1 by omega]
          simp
      · rename_i hge
        obtain ⟨q, hm, hv, hk, hlen, hq⟩ := ih _ _ _ _ h
        have hq := hq (by omega)
        refine ⟨c.toNat % 128 + 128 * q, ?_, ?_, by omega, by simp; omega, fun _ => by omega⟩
        · rw [hm, Nat.pow_succ, Nat.add_mul, Nat.mul_comm 128 q, Nat.mul_assoc, Nat.mul_comm 128 (128 ^ i), Nat.add_assoc]
        · rw [vput_ge (by omega), show k - i = (k - (i + 1)) + 1 by omega, List.take_succ_cons, ← hv]
          congr 1
          · rw [show (c.toNat % 128 + 128 * q) % 128 + 128 = c.toNat by omega]; simp
          · congr 1; omega

/-- What is written is read again. -/
theorem vgetFrom_put (f : Nat) : ∀ q i n rest, q ≤ f → q * 128 ^ i < 18446744073709551616 → (0 < i → 0 < q) → vgetFrom i n (vput q ++ rest) = (n + q * 128 ^ i, i + (vput q).length, 0) := by
  induction f with
  | zero =>
    intro q i n rest hf hb hi
    have : q = 0 := by omega
    subst this
    have : i = 0 := by omega
    subst this
    rw [vput_lt (by omega)]
    simp [vgetFrom]
  | succ f ih =>
    intro q i n rest hf hb hi
    have hi9 : i ≤ 9 := by
      by_cases h : i ≤ 9
      · exact h
      · have h2 : 128 ^ 10 ≤ 128 ^ i := Nat.pow_le_pow_right (by omega) (by omega)
        have h3 : (128 : Nat) ^ 10 = 1180591620717411303424 := by decide
        have h4 : 1 * 128 ^ i ≤ q * 128 ^ i := Nat.mul_le_mul_right _ (hi (by omega))
        omega
    have h9 : i = 9 → q ≤ 1 := by
      rintro rfl
      rw [pow9] at hb
      omega
    by_cases hq : q < 128
    · rw [vput_lt hq]
      have ht : (UInt8.ofNat q).toNat = q := by simp; omega
      simp only [List.cons_append, List.nil_append, vgetFrom, ht, List.length_singleton]
      rw [if_neg (by omega), if_pos hq, if_neg (by omega), Nat.mod_eq_of_lt hq]
    · rw [vput_ge hq]
      have ht : (UInt8.ofNat (q % 128 + 128)).toNat = q % 128 + 128 := by simp; omega
      simp only [List.cons_append, vgetFrom, ht, List.length_cons]
      have h9' : i ≠ 9 := by intro e; have := h9 e; omega
      have hmul : q / 128 * 128 ^ (i + 1) ≤ q * 128 ^ i := by
        rw [Nat.pow_succ, Nat.mul_comm (128 ^ i) 128, ← Nat.mul_assoc]
        exact Nat.mul_le_mul_right _ (by omega)
      rw [if_neg (by omega), if_neg (by omega), ih (q / 128) (i + 1) _ rest (by omega) (by omega) (by omega)]
      have e : (q % 128 + 128) % 128 * 128 ^ i + q / 128 * 128 ^ (i + 1) = q * 128 ^ i := by
        rw [Nat.pow_succ, Nat.mul_comm (128 ^ i) 128, ← Nat.mul_assoc, ← Nat.add_mul]
        congr 1; omega
      simp only [Prod.mk.injEq, and_true]
      exact ⟨by omega, by omega⟩
theorem vget_put (q : Nat) (rest : List UInt8) (h : q < 18446744073709551616) : vget (vput q ++ rest) = (q, (vput q).length, 0) := by
  have := vgetFrom_put q q 0 0 rest (Nat.le_refl _) (by simpa using h) (by omega)
  simpa [vget] using this
theorem vget_one (s : List UInt8) (m k : Nat) (h : vget s = (m, k, 0)) : vput m = s.take k ∧ 0 < k ∧ k ≤ s.length := by
  obtain ⟨q, hm, hv, hk, hl, _⟩ := vgetFrom_one s 0 0 m k h
  have : m = q := by simpa using hm
  subst this
  exact ⟨by simpa using hv, hk, by simpa using hl⟩

/-! ### folded numbers -/
def vfold (n : Int) : Nat := if n < 0 then ((-n - 1) * 2 + 1).toNat else (n * 2).toNat
def vback (n : Nat) : Int := if n % 2 = 1 then -((n / 2 : Nat) : Int) - 1 else ((n / 2 : Nat) : Int)
theorem vback_fold (n : Int) : vback (vfold n) = n := by unfold vback vfold; split <;> split <;> omega
theorem vfold_lt {n : Int} (h : I64 n) : vfold n < 18446744073709551616 := by unfold I64 at h; unfold vfold; split <;> omega
theorem vback_I64 {n : Nat} (h : n < 18446744073709551616) : I64 (vback n) := by unfold I64 vback; split <;> omega
theorem vfold_back {n : Nat} (h : n < 18446744073709551616) : vfold (vback n) = n := by unfold vfold vback; split <;> split <;> omega
end Go.Proofs.Yteifpdpppndipaa
