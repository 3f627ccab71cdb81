
/- The least of many numbers by matches of two, as a plain law. No program. -/
import Derived.Test.YtgbcnlchpolcbaaLib
namespace Go.Proofs.Ytgbcnlchpolcbaa
set_option maxRecDepth 100000
set_option linter.unusedSimpArgs false
set_option linter.unusedVariables false

/-- Who wins of two places; -1: nobody. -/
def better (key : Int → Int) (a b : Int) : Int := if a = -1 then b else if b = -1 ∨ key a ≤ key b then a else b
theorem better_none (key : Int → Int) (a : Int) : better key a (-1) = a := by unfold better; split <;> simp_all
theorem none_better (key : Int → Int) (a : Int) : better key (-1) a = a := by unfold better; simp
theorem better_assoc (key : Int → Int) (a b c : Int) : better key (better key a b) c = better key a (better key b c) := by
  unfold better
  by_cases ha : a = -1
  · simp [ha]
  · by_cases hb : b = -1
    · simp [ha, hb]
    · by_cases hc : c = -1
      · simp [ha, hb, hc]; split <;> simp_all
      · simp only [ha, hb, hc, if_false, false_or]
        by_cases h1 : key a ≤ key b <;> by_cases h2 : key b ≤ key c <;> by_cases h3 : key a ≤ key c <;> simp [h1, h2, h3, ha, hb, hc] <;> omega

/-- The place of the least number of those from lo on, so many, that are in; -1: none is. -/
def best (key : Int → Int) (inn : Nat → Bool) (lo : Nat) : Nat → Int
  | 0 => -1
  | k + 1 => better key (best key inn lo k) (if inn (lo + k) then ((lo + k : Nat) : Int) else -1)
theorem best_add (key : Int → Int) (inn : Nat → Bool) (lo a : Nat) : ∀ b, best key inn lo (a + b) = better key (best key inn lo a) (best key inn (lo + a) b)
  | 0 => by simp [best, better_none]
  | b + 1 => by
    rw [← Nat.add_assoc, best, best_add key inn lo a b, best, better_assoc, Nat.add_assoc]
theorem best_congr {key key' : Int → Int} {inn inn' : Nat → Bool} {lo : Nat} : ∀ k, (∀ i, lo ≤ i → i < lo + k → inn i = inn' i ∧ (inn i = true → key i = key' i)) → best key inn lo k = best key' inn' lo k ∧ (best key inn lo k = -1 ∨ ∃ i : Nat, best key inn lo k = (i : Int) ∧ lo ≤ i ∧ i < lo + k ∧ inn i = true)
  | 0, _ => ⟨rfl, .inl rfl⟩
  | k + 1, h => by
    obtain ⟨h1, h2⟩ := best_congr (key := key) (key' := key') (inn := inn) (inn' := inn') (lo := lo) k (fun i hi hk => h i hi (by omega))
    obtain ⟨h3, h4⟩ := h (lo + k) (by omega) (by omega)
    have hstep : best key inn lo (k + 1) = best key' inn' lo (k + 1) := by
      simp only [best]
      rw [← h1, ← h3]
      by_cases hin : inn (lo + k) = true
      · rw [if_pos hin]
        rcases h2 with h2 | ⟨i, h2, hi, hik, hii⟩
        · rw [h2, none_better, none_better]
        · unfold better
          have e1 := (h i hi (by omega)).2 hii
          have e2 := h4 hin
          rw [h2, e1, e2]
      · rw [if_neg hin, better_none, better_none]
    refine ⟨hstep, ?_⟩
    simp only [best]
    by_cases hin : inn (lo + k) = true
    · rw [if_pos hin]
      unfold better
      split
      · exact .inr ⟨lo + k, rfl, by omega, by omega, hin⟩
      · split
        · rcases h2 with h2 | ⟨i, h2, hi, hik, hii⟩
          · rename_i hne _; exact absurd h2 hne
          · exact .inr ⟨i, h2, hi, by omega, hii⟩
        · exact .inr ⟨lo + k, rfl, by omega, by omega, hin⟩
    · rw [if_neg hin, better_none]
      rcases h2 with h2 | ⟨i, h2, hi, hik, hii⟩
      · exact .inl h2
      · exact .inr ⟨i, h2, hi, by omega, hii⟩
theorem best_in (key : Int → Int) (inn : Nat → Bool) (lo k : Nat) : best key inn lo k = -1 ∨ ∃ i : Nat, best key inn lo k = (i : Int) ∧ lo ≤ i ∧ i < lo + k ∧ inn i = true :=
  (best_congr (key := key) (key' := key) (inn := inn) (inn' := inn) k (fun _ _ _ => ⟨rfl, fun _ => rfl⟩)).2
theorem best_out (key : Int → Int) (inn : Nat → Bool) (lo : Nat) : ∀ k, (∀ i, lo ≤ i → i < lo + k → inn i = false) → best key inn lo k = -1
  | 0, _ => rfl
  | k + 1, h => by
    rw [best, best_out key inn lo k (fun i hi hk => h i hi (by omega)), h (lo + k) (by omega) (by omega), none_better]; rfl

/-! ### the matches: place 'at' of height h has the best of 2^h places -/
/-- 'at' is a match of height h. -/
def Node (size h a : Nat) : Prop := size ≤ a * 2 ^ h ∧ (a + 1) * 2 ^ h ≤ 2 * size
def Right (key : Int → Int) (inn : Nat → Bool) (size h a : Nat) (v : Int) : Prop := v = best key inn (a * 2 ^ h - size) (2 ^ h)

/-- All matches are right. -/
def Inv (key : Int → Int) (inn : Nat → Bool) (size : Nat) (won : Nat → Int) : Prop := ∀ h a, Node size h a → Right key inn size h a (won a)
/-- All matches are right, but for those above height h that place i takes part in. -/
def InvUp (key : Int → Int) (inn : Nat → Bool) (size i h : Nat) (won : Nat → Int) : Prop :=
  ∀ k a, Node size k a → (k ≤ h ∨ ¬ (a * 2 ^ k ≤ size + i ∧ size + i < (a + 1) * 2 ^ k)) → Right key inn size k a (won a)

/-- A place's number, or whether it is in, has changed: the matches in which it doesn't take part stay right. -/
theorem Inv.change {key key' : Int → Int} {inn inn' : Nat → Bool} {size i : Nat} {won : Nat → Int} (h : Inv key inn size won) (hi : ∀ j : Nat, j ≠ i → inn j = inn' j ∧ key j = key' j) :
    ∀ k a, Node size k a → ¬ (a * 2 ^ k ≤ size + i ∧ size + i < (a + 1) * 2 ^ k) → Right key' inn' size k a (won a) := by
  intro k a hn hout
  have := h k a hn
  unfold Right at *
  rw [this]
  refine (best_congr _ (fun j hj1 hj2 => ?_)).1
  have hne : j ≠ i := by
    rintro rfl
    apply hout
    have := hn.1
    rw [Nat.add_mul, Nat.one_mul]
    omega
  exact ⟨(hi j hne).1, fun _ => (hi j hne).2⟩
theorem node_zero {size a : Nat} : Node size 0 a ↔ size ≤ a ∧ a < 2 * size := by unfold Node; simp; omega

/-- The leaf of a place is told. -/
theorem InvUp.leaf {key : Int → Int} {inn : Nat → Bool} {size i : Nat} {won : Nat → Int} (h : ∀ k a, Node size k a → ¬ (a * 2 ^ k ≤ size + i ∧ size + i < (a + 1) * 2 ^ k) → Right key inn size k a (won a))
    (v : Int) (hv : v = if inn i then (i : Int) else -1) : InvUp key inn size i 0 (fun a => if a = size + i then v else won a) := by
  intro k a hn hor
  by_cases ha : a = size + i
  · subst ha
    have hk : k = 0 := by
      rcases hor with h0 | h0
      · omega
      · have h1 : 1 ≤ 2 ^ k := Nat.one_le_two_pow
        have h2 := hn.2
        by_cases hk : k = 0
        · exact hk
        · exfalso
          have h3 : 2 ≤ 2 ^ k := by
            calc 2 = 2 ^ 1 := rfl
              _ ≤ 2 ^ k := Nat.pow_le_pow_right (by omega) (by omega)
          have h4 : (size + i + 1) * 2 ≤ (size + i + 1) * 2 ^ k := Nat.mul_le_mul_left _ h3
          omega
    subst hk
    unfold Right
    simp only [if_true, Nat.pow_zero, Nat.mul_one, best, none_better]
    rw [hv, show size + i - size + 0 = i by omega]
  · show Right key inn size k a (if a = size + i then v else won a)
    rw [if_neg ha]
    refine h k a hn ?_
    rcases hor with h0 | h0
    · have : k = 0 := by omega
      subst this
      simp
      omega
    · exact h0

/-- One match more, of which the two below are right. -/
theorem InvUp.up {key : Int → Int} {inn : Nat → Bool} {size i h a : Nat} {won : Nat → Int} (hv : InvUp key inn size i h won) (ha : a * 2 ^ (h + 1) ≤ size + i ∧ size + i < (a + 1) * 2 ^ (h + 1)) (hn : Node size (h + 1) a) (ha0 : 0 < a) :
    InvUp key inn size i (h + 1) (fun b => if b = a then better key (won (2 * a)) (won (2 * a + 1)) else won b) := by
  have e1 : 2 * a * 2 ^ h = a * 2 ^ (h + 1) := by rw [Nat.pow_succ, Nat.mul_comm 2 a, Nat.mul_assoc, Nat.mul_comm 2 (2 ^ h)]
  have e2 : (2 * a + 1) * 2 ^ h = a * 2 ^ (h + 1) + 2 ^ h := by rw [Nat.add_mul, e1, Nat.one_mul]
  have e3 : (2 * a + 1 + 1) * 2 ^ h = (a + 1) * 2 ^ (h + 1) := by rw [Nat.add_mul, e2, Nat.one_mul, Nat.add_mul, Nat.one_mul, Nat.pow_succ]; omega
  have hp : 0 < 2 ^ h := Nat.two_pow_pos h
  have n1 : Node size h (2 * a) := by refine ⟨by rw [e1]; exact hn.1, ?_⟩; rw [e2]; have := hn.2; rw [Nat.add_mul, Nat.one_mul, Nat.pow_succ] at this; rw [Nat.pow_succ] at *; omega
  have n2 : Node size h (2 * a + 1) := by refine ⟨by rw [e2]; have := hn.1; omega, ?_⟩; rw [e3]; exact hn.2
  have r1 := hv h (2 * a) n1 (.inl (Nat.le_refl _))
  have r2 := hv h (2 * a + 1) n2 (.inl (Nat.le_refl _))
  intro k b hb hor
  by_cases hba : b = a
  · subst hba
    have hk : k = h + 1 := by
      have h1 := hb.1
      have h2 := hb.2
      have h3 := hn.1
      have h4 := hn.2
      rcases Nat.lt_trichotomy k (h + 1) with hlt | heq | hgt
      · exfalso
        have : b * 2 ^ k * 2 ≤ b * 2 ^ (h + 1) := by
          rw [Nat.mul_assoc, ← Nat.pow_succ]
          exact Nat.mul_le_mul_left _ (Nat.pow_le_pow_right (by omega) (by omega))
        rw [Nat.add_mul] at h4
        have : 0 < 1 * 2 ^ (h + 1) := by simp; exact Nat.two_pow_pos _
        omega
      · exact heq
      · exfalso
        have : b * 2 ^ (h + 1) * 2 ≤ b * 2 ^ k := by
          rw [Nat.mul_assoc, ← Nat.pow_succ]
          exact Nat.mul_le_mul_left _ (Nat.pow_le_pow_right (by omega) (by omega))
        rw [Nat.add_mul] at h2
        have : 0 < 1 * 2 ^ k := by simp; exact Nat.two_pow_pos _
        omega
    subst hk
    unfold Right at *
    simp only [if_true]
    rw [r1, r2, e1, e2, show 2 ^ (h + 1) = 2 ^ h + 2 ^ h by rw [Nat.pow_succ]; omega, best_add]
    congr 2
    have := hn.1
    rw [show 2 ^ h + 2 ^ h = 2 ^ (h + 1) by rw [Nat.pow_succ]; omega]
    omega
  · show Right key inn size k b (if b = a then _ else won b)
    rw [if_neg hba]
    refine hv k b hb ?_
    rcases hor with h0 | h0
    · by_cases hk : k ≤ h
      · exact .inl hk
      · have hk : k = h + 1 := by omega
        subst hk
        refine .inr (fun hc => hba ?_)
        have l1 : b < a + 1 := Nat.lt_of_mul_lt_mul_right (a := 2 ^ (h + 1)) (by omega)
        have l2 : a < b + 1 := Nat.lt_of_mul_lt_mul_right (a := 2 ^ (h + 1)) (by omega)
        omega
    · exact .inr h0
/-- At the top all matches are right. -/
theorem InvUp.top {key : Int → Int} {inn : Nat → Bool} {size i h : Nat} {won : Nat → Int} (hv : InvUp key inn size i h won) (hs : size = 2 ^ h) : Inv key inn size won := by
  intro k a hn
  refine hv k a hn ?_
  by_cases hk : k ≤ h
  · exact .inl hk
  · refine .inr (fun hc => ?_)
    have h1 := hn.1
    have h2 := hn.2
    have h3 : 2 ^ h * 2 ≤ 2 ^ k := by rw [← Nat.pow_succ]; exact Nat.pow_le_pow_right (by omega) (by omega)
    have ha : 0 < a := by
      rcases Nat.eq_zero_or_pos a with h0 | h0
      · subst h0
        have : 0 < 2 ^ h := Nat.two_pow_pos h
        omega
      · exact h0
    have h4 : 1 * 2 ^ k ≤ a * 2 ^ k := Nat.mul_le_mul_right _ ha
    rw [Nat.add_mul] at h2
    have : 0 < 2 ^ h := Nat.two_pow_pos h
    omega
/-- The last match has the best of all. -/
theorem Inv.first {key : Int → Int} {inn : Nat → Bool} {size h : Nat} {won : Nat → Int} (hv : Inv key inn size won) (hs : size = 2 ^ h) : won 1 = best key inn 0 size := by
  have hn : Node size h 1 := by unfold Node; omega
  have := hv h 1 hn
  unfold Right at this
  rw [this, hs]; congr 1; omega
end Go.Proofs.Ytgbcnlchpolcbaa
