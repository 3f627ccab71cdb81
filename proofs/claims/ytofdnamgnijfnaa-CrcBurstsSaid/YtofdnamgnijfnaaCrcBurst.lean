
/- Bytes that differ within 32 bits in a row have another sum, as a plain law. No program. -/
import Derived.Test.YtofdnamgnijfnaaLawCrc
namespace Go.Proofs.Ytofdnamgnijfnaa
set_option linter.unusedVariables false
set_option linter.unusedSimpArgs false

theorem bval_zero (d : List Bool) (h : bval d = 0) : ∀ b ∈ d, b = false := by
  induction d with
  | nil => intro b hb; simp at hb
  | cons a d ih =>
    rw [bval] at h
    intro b hb
    rcases List.mem_cons.1 hb with rfl | hb
    · cases b
      · rfl
      · simp at h
    · exact ih (by omega) b hb
theorem xorBits_len (xs : List Bool) : ∀ ys, xs.length = ys.length → (xorBits xs ys).length = xs.length := by
  induction xs with
  | nil => intro ys h; cases ys <;> rfl
  | cons a xs ih =>
    intro ys h
    cases ys with
    | nil => simp at h
    | cons b ys => simp only [xorBits, List.length_cons]; rw [ih ys (by simpa using h)]
theorem xorBits_get (xs : List Bool) : ∀ (ys : List Bool) (j : Nat) (a b : Bool), xs[j]? = some a → ys[j]? = some b → (xorBits xs ys)[j]? = some (a ^^ b) := by
  induction xs with
  | nil => intro ys j a b h; simp at h
  | cons x xs ih =>
    intro ys j a b h1 h2
    cases ys with
    | nil => simp at h2
    | cons y ys =>
      cases j with
      | zero => simp at h1 h2; subst h1 h2; rfl
      | succ j => rw [xorBits, List.getElem?_cons_succ]; exact ih ys j a b (by simpa using h1) (by simpa using h2)
theorem bytes_eq (l l' : List UInt8) (hlen : l'.length = l.length) (h : ∀ j, j < 8 * l.length → bitAt l' j = bitAt l j) : l' = l := by
  apply List.ext_getElem hlen
  intro i h1 h2
  apply UInt8.toNat_inj.1
  apply Nat.eq_of_testBit_eq
  intro r
  by_cases hr : r < 8
  · have := h (8 * i + r) (by omega)
    unfold bitAt at this
    rw [show (8 * i + r) / 8 = i by omega, show (8 * i + r) % 8 = r by omega] at this
    rw [List.getD_eq_getElem?_getD, List.getD_eq_getElem?_getD, List.getElem?_eq_getElem h1, List.getElem?_eq_getElem h2] at this
    exact this
  · rw [Nat.testBit_lt_two_pow (Nat.lt_of_lt_of_le (UInt8.toNat_lt _) (Nat.pow_le_pow_right (by omega) (by omega))),
      Nat.testBit_lt_two_pow (Nat.lt_of_lt_of_le (UInt8.toNat_lt _) (Nat.pow_le_pow_right (by omega) (by omega)))]

/-- Which bits are turned. -/
def hit (first mask i j : Nat) : Bool := decide (first ≤ j) && decide (j < first + i) && mask.testBit (j - first)
theorem bits_burst (l l' : List UInt8) (first mask : Nat) (hlen : l'.length = l.length) (hf : first < 8 * l.length)
    (h : ∀ j, j < 8 * l.length → bitAt l' j = (bitAt l j ^^ hit first mask 32 j)) (hr : creg l' = creg l) : l' = l := by
  have hx : feed 0 (xorBits (bitsOf l') (bitsOf l)) = 0 := by
    have := feed_xor (bitsOf l') (bitsOf l) CM CM (by rw [bitsOf_len, bitsOf_len, hlen])
    rw [Nat.xor_self] at this
    rw [← this]
    unfold creg at hr
    rw [hr, Nat.xor_self]
  have hN : 8 * l'.length = 8 * l.length := by rw [hlen]
  obtain ⟨m, hm⟩ : ∃ m, m = min 32 (8 * l.length - first) := ⟨_, rfl⟩
  have hshape : xorBits (bitsOf l') (bitsOf l) = List.replicate first false ++ (List.range m).map mask.testBit ++ List.replicate (8 * l.length - first - m) false := by
    apply List.ext_getElem?
    intro j
    by_cases hj : j < 8 * l.length
    · rw [xorBits_get _ _ j _ _ (bitsOf_get l' j (by omega)) (bitsOf_get l j hj), h j hj]
      have e : ((bitAt l j ^^ hit first mask 32 j) ^^ bitAt l j) = hit first mask 32 j := by cases bitAt l j <;> cases hit first mask 32 j <;> rfl
      rw [e]
      by_cases h1 : j < first
      · rw [List.append_assoc, List.getElem?_append_left (by simpa using h1), List.getElem?_replicate, if_pos h1]
        unfold hit
        rw [show decide (first ≤ j) = false from decide_eq_false (by omega)]
        rfl
      · by_cases h2 : j < first + m
        · rw [List.getElem?_append_left (by simp; omega), List.getElem?_append_right (by simp; omega), List.length_replicate, List.getElem?_map, List.getElem?_range (by omega)]
          unfold hit
          rw [show decide (first ≤ j) = true from decide_eq_true (by omega), show decide (j < first + 32) = true from decide_eq_true (by omega)]
          rfl
        · rw [List.getElem?_append_right (by simp; omega), List.getElem?_replicate, if_pos (by simp; omega)]
          unfold hit
          rw [show decide (j < first + 32) = false from decide_eq_false (by omega)]
          simp
    · rw [List.getElem?_eq_none (by rw [xorBits_len _ _ (by rw [bitsOf_len, bitsOf_len, hlen]), bitsOf_len]; omega), List.getElem?_eq_none (by simp; omega)]
  rw [hshape] at hx
  have hz := bval_zero _ (burst first _ _ (by simp; omega) hx)
  refine bytes_eq l l' hlen fun j hj => ?_
  rw [h j hj]
  have : hit first mask 32 j = false := by
    unfold hit
    by_cases h1 : first ≤ j
    · by_cases h2 : j < first + 32
      · have := hz (mask.testBit (j - first)) (List.mem_map.2 ⟨j - first, List.mem_range.2 (by omega), rfl⟩)
        simp [this]
      · simp [h2]
    · simp [h1]
  rw [this]; simp
end Go.Proofs.Ytofdnamgnijfnaa
