/- Several texts as one. No condition beyond each one's own. -/
import Derived.Test.YtockkjhciojgbaaGreatDoorPackA
import Derived.Test.YtockkjhciojgbaaGreatDoorProg
import Derived.WalkSpells
import Derived.WalkLawsBesides
import Derived.Deep.RegionHeld3
import Derived.BigRegion
import Derived.Laws.BitsAllLaws
import Derived.Laws.OwnMore
import Derived.Test.YtockkjhciojgbaaGreatDoorRecRow
import Derived.Deep.RegionWith
import Derived.Deep.RegionHeld
import Derived.Laws.ResultCell
/- CrcPure -/
/- Sums of bytes xas a plain law: bit by bit, byte by byte, and xas a division; what differs within 32 bits has another sum. No program. -/
namespace Go.Proofs.YtockkjhciojgbaaGreatDoor
set_option maxRecDepth 100000
set_option linter.unusedSimpArgs false
set_option linter.unusedVariables false

def CP : Nat := 3988292384
def cstep (x : Nat) : Nat := (x / 2) ^^^ (if x % 2 = 1 then CP else 0)
theorem cstep_bit (x j : Nat) : (cstep x).testBit j = ((x.testBit (j + 1)) ^^ (x.testBit 0 && CP.testBit j)) := by
  unfold cstep
  rw [Nat.testBit_xor, Nat.testBit_div_two]
  congr 1
  rw [Nat.testBit_zero]
  by_cases h : x % 2 = 1
  · simp [h]
  · simp [h]
theorem cstep_xor (a b : Nat) : cstep (a ^^^ b) = cstep a ^^^ cstep b := by
  apply Nat.eq_of_testBit_eq
  intro j
  rw [Nat.testBit_xor, cstep_bit, cstep_bit, cstep_bit, Nat.testBit_xor, Nat.testBit_xor]
  cases a.testBit (j + 1) <;> cases b.testBit (j + 1) <;> cases a.testBit 0 <;> cases b.testBit 0 <;> cases CP.testBit j <;> rfl
theorem cstep_two (x : Nat) : cstep (2 * x) = x := by unfold cstep; rw [if_neg (by omega)]; simp
theorem CP_bit {j : Nat} (h : 32 ≤ j) : CP.testBit j = false := Nat.testBit_lt_two_pow (Nat.lt_of_lt_of_le (by decide : CP < 2 ^ 32) (Nat.pow_le_pow_right (by omega) h))
theorem cstep_lt {x : Nat} (h : x < 2 ^ 32) : cstep x < 2 ^ 32 := by
  unfold cstep
  apply Nat.xor_lt_two_pow
  · omega
  · split <;> decide
theorem cstep_zero : cstep 0 = 0 := by decide
theorem cstep_inj {x : Nat} (hx : x < 2 ^ 32) (h : cstep x = 0) : x = 0 := by
  unfold cstep at h
  by_cases ho : x % 2 = 1
  · rw [if_pos ho] at h
    have h2 : x / 2 = CP := by
      have h3 : (x / 2 ^^^ CP) ^^^ CP = 0 ^^^ CP := by rw [h]
      rwa [Nat.xor_assoc, Nat.xor_self, Nat.xor_zero, Nat.zero_xor] at h3
    have : CP = 3988292384 := rfl
    omega
  · rw [if_neg ho, Nat.xor_zero] at h
    omega

def csteps : Nat → Nat → Nat
  | 0, x => x
  | k + 1, x => csteps k (cstep x)
theorem csteps_xor (k : Nat) : ∀ a b, csteps k (a ^^^ b) = csteps k a ^^^ csteps k b := by
  induction k with
  | zero => intro a b; rfl
  | succ k ih => intro a b; rw [csteps, cstep_xor, ih]; rfl
theorem csteps_shift (k : Nat) : ∀ x, csteps k (2 ^ k * x) = x := by
  induction k with
  | zero => intro x; simp [csteps]
  | succ k ih =>
    intro x
    rw [csteps, show 2 ^ (k + 1) * x = 2 * (2 ^ k * x) by rw [Nat.pow_succ, Nat.mul_comm (2 ^ k) 2, Nat.mul_assoc], cstep_two, ih]
theorem csteps_lt (k : Nat) : ∀ {x : Nat}, x < 2 ^ 32 → csteps k x < 2 ^ 32 := by
  induction k with
  | zero => intro x h; exact h
  | succ k ih => intro x h; exact ih (cstep_lt h)
theorem csteps_inj (k : Nat) : ∀ {x : Nat}, x < 2 ^ 32 → csteps k x = 0 → x = 0 := by
  induction k with
  | zero => intro x _ h; exact h
  | succ k ih => intro x hx h; exact cstep_inj hx (ih (cstep_lt hx) h)
theorem csteps_add (j k : Nat) : ∀ x, csteps (j + k) x = csteps k (csteps j x) := by
  induction j with
  | zero => intro x; simp [csteps]
  | succ j ih => intro x; rw [show j + 1 + k = (j + k) + 1 by omega, csteps, ih]; rfl

/-! ### bits, one behind the other -/
def feed (x : Nat) : List Bool → Nat
  | [] => x
  | b :: bs => feed (cstep (x ^^^ b.toNat)) bs
def bval : List Bool → Nat
  | [] => 0
  | b :: bs => b.toNat + 2 * bval bs
theorem bval_lt (bs : List Bool) : bval bs < 2 ^ bs.length := by
  induction bs with
  | nil => simp [bval]
  | cons b bs ih =>
    have : b.toNat ≤ 1 := by cases b <;> simp
    simp only [bval, List.length_cons, Nat.pow_succ]; omega
theorem bval_xor (b : Bool) (v : Nat) : b.toNat + 2 * v = b.toNat ^^^ (2 * v) := by
  apply Nat.eq_of_testBit_eq
  intro j
  rw [Nat.testBit_xor]
  cases j with
  | zero => cases b <;> simp [Nat.testBit_zero] <;> omega
  | succ j =>
    rw [Nat.testBit_succ, Nat.testBit_succ, Nat.testBit_succ, show 2 * v / 2 = v by omega]
    cases b
    · simp
    · rw [show (true.toNat + 2 * v) / 2 = v by simp; omega]; simp
theorem feed_eq (bs : List Bool) : ∀ x, feed x bs = csteps bs.length (x ^^^ bval bs) := by
  induction bs with
  | nil => intro x; simp [feed, bval, csteps]
  | cons b bs ih =>
    intro x
    rw [feed, ih, List.length_cons, csteps, bval, bval_xor, ← Nat.xor_assoc, cstep_xor (x ^^^ b.toNat), cstep_two]
theorem feed_append (xas bs : List Bool) : ∀ x, feed x (xas ++ bs) = feed (feed x xas) bs := by
  induction xas with
  | nil => intro x; rfl
  | cons a xas ih => intro x; exact ih _
theorem feed_lt (bs : List Bool) : ∀ {x : Nat}, x < 2 ^ 32 → feed x bs < 2 ^ 32 := by
  induction bs with
  | nil => intro x h; exact h
  | cons b bs ih =>
    intro x h
    refine ih (cstep_lt (Nat.xor_lt_two_pow h ?_))
    cases b <;> decide

/-! ### bytes -/
def byteBits (c : UInt8) : List Bool := (List.range 8).map c.toNat.testBit
theorem byteBits_len (c : UInt8) : (byteBits c).length = 8 := by simp [byteBits]
theorem bval_bits (k : Nat) : ∀ n, n < 2 ^ k → bval ((List.range k).map n.testBit) = n := by
  induction k with
  | zero => intro n h; simp [bval]; omega
  | succ k ih =>
    intro n h
    rw [List.range_succ_eq_map, List.map_cons, bval, List.map_map]
    have h2 : (n.testBit ∘ Nat.succ) = (n / 2).testBit := by funext j; simp [Nat.testBit_succ]
    rw [h2, ih (n / 2) (by rw [Nat.pow_succ] at h; omega), Nat.testBit_zero]
    by_cases ho : n % 2 = 1
    · simp [ho]; omega
    · simp [ho]; omega
theorem bval_byte (c : UInt8) : bval (byteBits c) = c.toNat := bval_bits 8 _ c.toNat_lt
def bitsOf (s : List UInt8) : List Bool := s.flatMap byteBits
theorem bitsOf_len (s : List UInt8) : (bitsOf s).length = 8 * s.length := by
  induction s with
  | nil => rfl
  | cons c s ih => rw [bitsOf, List.flatMap_cons, List.length_append, byteBits_len]; rw [bitsOf] at ih; rw [ih, List.length_cons]; omega
theorem bitsOf_append (s t : List UInt8) : bitsOf (s ++ t) = bitsOf s ++ bitsOf t := by simp [bitsOf]

def CM : Nat := 4294967295
def creg (s : List UInt8) : Nat := feed CM (bitsOf s)
theorem creg_lt (s : List UInt8) : creg s < 2 ^ 32 := feed_lt _ (by decide)
def csum (s : List UInt8) : Nat := CM ^^^ creg s
def ctab (i : Nat) : Nat := csteps 8 i
theorem split256 (y : Nat) : y = (y % 256) ^^^ (2 ^ 8 * (y / 256)) := by
  apply Nat.eq_of_testBit_eq
  intro j
  rw [Nat.testBit_xor, show (256 : Nat) = 2 ^ 8 from rfl, Nat.testBit_mod_two_pow, Nat.testBit_two_pow_mul, Nat.testBit_div_two_pow]
  by_cases h : j < 8
  · simp [h, show ¬ 8 ≤ j by omega]
  · simp [h, show 8 ≤ j by omega]
theorem tab_step (y : Nat) : csteps 8 y = ctab (y % 256) ^^^ (y / 256) := by
  conv => lhs; rw [split256 y]
  rw [csteps_xor, csteps_shift]; rfl
theorem xor_div256 (x : Nat) (c : UInt8) : (x ^^^ c.toNat) / 256 = x / 256 := by
  apply Nat.eq_of_testBit_eq
  intro j
  rw [show (256 : Nat) = 2 ^ 8 from rfl, Nat.testBit_div_two_pow, Nat.testBit_div_two_pow, Nat.testBit_xor]
  have : c.toNat.testBit (j + 8) = false := Nat.testBit_lt_two_pow (Nat.lt_of_lt_of_le c.toNat_lt (Nat.pow_le_pow_right (by omega) (by omega)))
  simp [this]
theorem creg_snoc (s : List UInt8) (c : UInt8) : creg (s ++ [c]) = ctab ((creg s ^^^ c.toNat) % 256) ^^^ (creg s / 256) := by
  unfold creg
  rw [bitsOf_append, feed_append, show bitsOf [c] = byteBits c by simp [bitsOf], feed_eq, byteBits_len, bval_byte, tab_step, xor_div256]

/-! ### what differs within 32 bits -/
def xorBits : List Bool → List Bool → List Bool
  | a :: xas, b :: bs => (a ^^ b) :: xorBits xas bs
  | _, _ => []
theorem feed_xor (xas : List Bool) : ∀ bs x y, xas.length = bs.length → feed x xas ^^^ feed y bs = feed (x ^^^ y) (xorBits xas bs) := by
  induction xas with
  | nil => intro bs x y h; cases bs with
    | nil => rfl
    | cons b bs => simp at h
  | cons a xas ih =>
    intro bs x y h
    cases bs with
    | nil => simp at h
    | cons b bs =>
      rw [feed, feed, ih bs _ _ (by simpa using h), xorBits, feed, ← cstep_xor]
      congr 2
      have : (a ^^ b).toNat = a.toNat ^^^ b.toNat := by cases a <;> cases b <;> rfl
      rw [this]
      ac_rfl
theorem feed_zeros (k : Nat) : feed 0 (List.replicate k false) = 0 := by
  induction k with
  | zero => rfl
  | succ k ih => rw [List.replicate_succ, feed]; simpa [cstep_zero] using ih
/-- A difference: zeros, then no more than 32 bits, then zeros: if the registers are the same, there is none. -/
theorem burst (p q : Nat) (d : List Bool) (hd : d.length ≤ 32) (h : feed 0 (List.replicate p false ++ d ++ List.replicate q false) = 0) : bval d = 0 := by
  rw [feed_append, feed_append, feed_zeros, feed_eq, feed_eq, List.length_replicate] at h
  have hz : ∀ q, bval (List.replicate q false) = 0 := by
    intro q
    induction q with
    | zero => rfl
    | succ q ih => rw [List.replicate_succ, bval, ih]; rfl
  have hdl : bval d < 2 ^ 32 := Nat.lt_of_lt_of_le (bval_lt d) (Nat.pow_le_pow_right (by omega) hd)
  rw [hz, Nat.xor_zero, Nat.zero_xor, ← csteps_add] at h
  exact csteps_inj _ hdl h
end Go.Proofs.YtockkjhciojgbaaGreatDoor
/- VarPure -/
/- Numbers as bytes to the base 128, as a plain law: what is written is read again, and what is read is just what is written. No program. -/
namespace Go.Proofs.YtockkjhciojgbaaGreatDoor
set_option maxRecDepth 100000
set_option linter.unusedSimpArgs false
set_option linter.unusedVariables false

/-- A number's digits, the lowest first. -/
def vput (n : Nat) : List UInt8 := if h : n < 128 then [UInt8.ofNat n] else UInt8.ofNat (n % 128 + 128) :: vput (n / 128)
decreasing_by omega
theorem vput_lt {n : Nat} (h : n < 128) : vput n = [UInt8.ofNat n] := by rw [vput]; simp [h]
theorem vput_ge {n : Nat} (h : ¬ n < 128) : vput n = UInt8.ofNat (n % 128 + 128) :: vput (n / 128) := by rw [vput]; simp [h]
theorem vput_len (k : Nat) : ∀ n, n < 128 ^ (k + 1) → (vput n).length ≤ k + 1 := by
  induction k with
  | zero => intro n h; rw [vput_lt (by omega)]; simp
  | succ k ih =>
    intro n h
    by_cases hn : n < 128
    · rw [vput_lt hn]; simp
    · rw [vput_ge hn, List.length_cons]
      have := ih (n / 128) (by rw [Nat.pow_succ] at h; omega)
      omega
theorem vput_pos (n : Nat) : 0 < (vput n).length := by rw [vput]; split <;> simp

/-- The number with which bytes go on from place i, n being what was read: the number, how many bytes, 0; or 0, 0 and why. -/
def vgetFrom (i n : Nat) : List UInt8 → Nat × Nat × Nat
  | [] => (0, 0, 1)
  | c :: rest => if 9 < i ∨ (i = 9 ∧ 1 < c.toNat % 128) then (0, 0, 2)
    else if c.toNat < 128 then (if c.toNat = 0 ∧ 0 < i then (0, 0, 2) else (n + c.toNat % 128 * 128 ^ i, i + 1, 0))
    else vgetFrom (i + 1) (n + c.toNat % 128 * 128 ^ i) rest
def vget (s : List UInt8) : Nat × Nat × Nat := vgetFrom 0 0 s

theorem vgetFrom_err (s : List UInt8) : ∀ i n, (vgetFrom i n s).2.2 ≠ 0 → (vgetFrom i n s).1 = 0 ∧ (vgetFrom i n s).2.1 = 0 := by
  induction s with
  | nil => intro i n _; exact ⟨rfl, rfl⟩
  | cons c rest ih =>
    intro i n h
    rw [vgetFrom] at h ⊢
    by_cases h1 : 9 < i ∨ (i = 9 ∧ 1 < c.toNat % 128)
    · rw [if_pos h1]; exact ⟨rfl, rfl⟩
    · rw [if_neg h1] at h ⊢
      by_cases h2 : c.toNat < 128
      · rw [if_pos h2] at h ⊢
        by_cases h3 : c.toNat = 0 ∧ 0 < i
        · rw [if_pos h3]; exact ⟨rfl, rfl⟩
        · rw [if_neg h3] at h; exact absurd rfl h
      · rw [if_neg h2] at h ⊢; exact ih _ _ h
theorem vgetFrom_kind (s : List UInt8) : ∀ i n, (vgetFrom i n s).2.2 = 0 ∨ (vgetFrom i n s).2.2 = 1 ∨ (vgetFrom i n s).2.2 = 2 := by
  induction s with
  | nil => intro i n; simp [vgetFrom]
  | cons c rest ih =>
    intro i n
    unfold vgetFrom
    split
    · simp
    · split
      · split <;> simp
      · exact ih _ _
theorem pow9 : (128 : Nat) ^ 9 = 9223372036854775808 := by decide
theorem pow_le9 {i : Nat} (h : i ≤ 9) : 128 ^ i ≤ 9223372036854775808 := by rw [← pow9]; exact Nat.pow_le_pow_right (by omega) h

theorem vgetFrom_lt (s : List UInt8) : ∀ i n, n < 128 ^ i → (vgetFrom i n s).1 < 18446744073709551616 := by
  induction s with
  | nil => intro i n _; simp [vgetFrom]
  | cons c rest ih =>
    intro i n h
    unfold vgetFrom
    split
    · simp
    · rename_i hi
      have hi9 : i ≤ 9 := by omega
      have hp := pow_le9 hi9
      have hn' : n + c.toNat % 128 * 128 ^ i < 128 ^ (i + 1) := by
        rw [Nat.pow_succ]
        have : c.toNat % 128 * 128 ^ i ≤ 127 * 128 ^ i := Nat.mul_le_mul_right _ (by omega)
        omega
      split
      · split
        · simp
        · show n + c.toNat % 128 * 128 ^ i < 18446744073709551616
          by_cases h9 : i = 9
          · subst h9
            have : c.toNat % 128 * 128 ^ 9 ≤ 1 * 128 ^ 9 := Nat.mul_le_mul_right _ (by omega)
            rw [pow9] at *
            omega
          · have : 128 ^ (i + 1) ≤ 9223372036854775808 := pow_le9 (by omega)
            omega
      · exact ih _ _ hn'

/-- What is read is just what is written. -/
theorem vgetFrom_one (s : List UInt8) : ∀ i n m k, vgetFrom i n s = (m, k, 0) → ∃ q, m = n + q * 128 ^ i ∧ vput q = s.take (k - i) ∧ i < k ∧ k - i ≤ s.length ∧ (0 < i → 0 < q) := by
  induction s with
  | nil => intro i n m k h; simp [vgetFrom] at h
  | cons c rest ih =>
    intro i n m k h
    have hc := c.toNat_lt
    unfold vgetFrom at h
    split at h
    · simp at h
    · split at h
      · rename_i hlt
        split at h
        · simp at h
        · rename_i hz
          simp only [Prod.mk.injEq, and_true] at h
          obtain ⟨rfl, rfl⟩ := h
          refine ⟨c.toNat, by rw [Nat.mod_eq_of_lt hlt], ?_, by omega, by simp, fun hi => by omega⟩
          rw [vput_lt hlt, show i + 1 - i = 1 by omega]
          simp
      · rename_i hge
        obtain ⟨q, hm, hv, hk, hlen, hq⟩ := ih _ _ _ _ h
        have hq := hq (by omega)
        refine ⟨c.toNat % 128 + 128 * q, ?_, ?_, by omega, by simp; omega, fun _ => by omega⟩
        · rw [hm, Nat.pow_succ, Nat.add_mul, Nat.mul_comm 128 q, Nat.mul_assoc, Nat.mul_comm 128 (128 ^ i), Nat.add_assoc]
        · rw [vput_ge (by omega), show k - i = (k - (i + 1)) + 1 by omega, List.take_succ_cons, ← hv]
          congr 1
          · rw [show (c.toNat % 128 + 128 * q) % 128 + 128 = c.toNat by omega]; simp
          · congr 1; omega

/-- What is written is read again. -/
theorem vgetFrom_put (f : Nat) : ∀ q i n rest, q ≤ f → q * 128 ^ i < 18446744073709551616 → (0 < i → 0 < q) → vgetFrom i n (vput q ++ rest) = (n + q * 128 ^ i, i + (vput q).length, 0) := by
  induction f with
  | zero =>
    intro q i n rest hf hb hi
    have : q = 0 := by omega
    subst this
    have : i = 0 := by omega
    subst this
    rw [vput_lt (by omega)]
    simp [vgetFrom]
  | succ f ih =>
    intro q i n rest hf hb hi
    have hi9 : i ≤ 9 := by
      by_cases h : i ≤ 9
      · exact h
      · have h2 : 128 ^ 10 ≤ 128 ^ i := Nat.pow_le_pow_right (by omega) (by omega)
        have h3 : (128 : Nat) ^ 10 = 1180591620717411303424 := by decide
        have h4 : 1 * 128 ^ i ≤ q * 128 ^ i := Nat.mul_le_mul_right _ (hi (by omega))
        omega
    have h9 : i = 9 → q ≤ 1 := by
      rintro rfl
      rw [pow9] at hb
      omega
    by_cases hq : q < 128
    · rw [vput_lt hq]
      have ht : (UInt8.ofNat q).toNat = q := by simp; omega
      simp only [List.cons_append, List.nil_append, vgetFrom, ht, List.length_singleton]
      rw [if_neg (by omega), if_pos hq, if_neg (by omega), Nat.mod_eq_of_lt hq]
    · rw [vput_ge hq]
      have ht : (UInt8.ofNat (q % 128 + 128)).toNat = q % 128 + 128 := by simp; omega
      simp only [List.cons_append, vgetFrom, ht, List.length_cons]
      have h9' : i ≠ 9 := by intro e; have := h9 e; omega
      have hmul : q / 128 * 128 ^ (i + 1) ≤ q * 128 ^ i := by
        rw [Nat.pow_succ, Nat.mul_comm (128 ^ i) 128, ← Nat.mul_assoc]
        exact Nat.mul_le_mul_right _ (by omega)
      rw [if_neg (by omega), if_neg (by omega), ih (q / 128) (i + 1) _ rest (by omega) (by omega) (by omega)]
      have e : (q % 128 + 128) % 128 * 128 ^ i + q / 128 * 128 ^ (i + 1) = q * 128 ^ i := by
        rw [Nat.pow_succ, Nat.mul_comm (128 ^ i) 128, ← Nat.mul_assoc, ← Nat.add_mul]
        congr 1; omega
      simp only [Prod.mk.injEq, and_true]
      exact ⟨by omega, by omega⟩
theorem vget_put (q : Nat) (rest : List UInt8) (h : q < 18446744073709551616) : vget (vput q ++ rest) = (q, (vput q).length, 0) := by
  have := vgetFrom_put q q 0 0 rest (Nat.le_refl _) (by simpa using h) (by omega)
  simpa [vget] using this
theorem vget_one (s : List UInt8) (m k : Nat) (h : vget s = (m, k, 0)) : vput m = s.take k ∧ 0 < k ∧ k ≤ s.length := by
  obtain ⟨q, hm, hv, hk, hl, _⟩ := vgetFrom_one s 0 0 m k h
  have : m = q := by simpa using hm
  subst this
  exact ⟨by simpa using hv, hk, by simpa using hl⟩

/-! ### folded numbers -/
def vfold (n : Int) : Nat := if n < 0 then ((-n - 1) * 2 + 1).toNat else (n * 2).toNat
def vback (n : Nat) : Int := if n % 2 = 1 then -((n / 2 : Nat) : Int) - 1 else ((n / 2 : Nat) : Int)
theorem vback_fold (n : Int) : vback (vfold n) = n := by unfold vback vfold; split <;> split <;> omega
theorem vfold_lt {n : Int} (h : I64 n) : vfold n < 18446744073709551616 := by unfold I64 at h; unfold vfold; split <;> omega
theorem vback_I64 {n : Nat} (h : n < 18446744073709551616) : I64 (vback n) := by unfold I64 vback; split <;> omega
theorem vfold_back {n : Nat} (h : n < 18446744073709551616) : vfold (vback n) = n := by unfold vfold vback; split <;> split <;> omega
end Go.Proofs.YtockkjhciojgbaaGreatDoor
/- Varint -/
/- What the functions of varint and of its reference answer. No condition. -/
namespace Go.Proofs.YtockkjhciojgbaaGreatDoor
set_option maxRecDepth 100000
set_option linter.unusedSimpArgs false
open Go.RowKit
set_option linter.unusedVariables false

theorem i64_xor_neg (a : Nat) (ha : a < 9223372036854775808) : bits .xor .i64 (a : Int) (-1) = -1 - (a : Int) := by
  show IntKind.i64.wrap ((BitVec.ofInt 64 (a : Int) ^^^ BitVec.ofInt 64 (-1)).toNat : Int) = _
  have h1 : BitVec.ofInt 64 (-1) = BitVec.allOnes 64 := by decide
  rw [h1, BitVec.xor_allOnes, BitVec.toNat_not, ofInt_u64 a (by omega)]
  simp [IntKind.wrap, IntKind.bits, IntKind.signed]
  omega
theorem i64_xor_zero (a : Nat) (ha : a < 9223372036854775808) : bits .xor .i64 (a : Int) 0 = (a : Int) := by
  show IntKind.i64.wrap ((BitVec.ofInt 64 (a : Int) ^^^ BitVec.ofInt 64 0).toNat : Int) = _
  have h1 : BitVec.ofInt 64 0 = 0#64 := by decide
  rw [h1, BitVec.xor_zero, ofInt_u64 a (by omega)]
  simp [IntKind.wrap, IntKind.bits, IntKind.signed]
  omega
theorem u64_xor_max (a : Nat) (ha : a < 18446744073709551616) : bits .xor .u64 (a : Int) 18446744073709551615 = 18446744073709551615 - (a : Int) := by
  show IntKind.u64.wrap ((BitVec.ofInt 64 (a : Int) ^^^ BitVec.ofInt 64 18446744073709551615).toNat : Int) = _
  have h1 : BitVec.ofInt 64 18446744073709551615 = BitVec.allOnes 64 := by decide
  rw [h1, BitVec.xor_allOnes, BitVec.toNat_not, ofInt_u64 a (by omega)]
  simp [IntKind.wrap, IntKind.bits, IntKind.signed]
  omega
theorem u64_xor_zero (a : Nat) (ha : a < 18446744073709551616) : bits .xor .u64 (a : Int) 0 = (a : Int) := by
  have := u64_xor_nat a 0 ha (by omega)
  simpa using this
theorem u64_wrap' (n : Int) : IntKind.u64.wrap n = n % 18446744073709551616 := by simp [IntKind.wrap, IntKind.bits, IntKind.signed]
theorem fold_bits (n : Int) (h : I64 n) : bits .xor .u64 (IntKind.u64.wrap (wrap64 (n * 2))) (IntKind.u64.wrap (n / 9223372036854775808)) = (vfold n : Int) := by
  unfold I64 at h
  rw [u64_wrap', u64_wrap']
  by_cases hn : n < 0
  · rw [show n / 9223372036854775808 % 18446744073709551616 = 18446744073709551615 by omega]
    obtain ⟨a, ha⟩ : ∃ a : Nat, wrap64 (n * 2) % 18446744073709551616 = (a : Int) := ⟨(wrap64 (n * 2) % 18446744073709551616).toNat, by omega⟩
    have ha2 : (a : Int) = 18446744073709551616 + n * 2 := by rw [← ha]; unfold wrap64; omega
    rw [ha, u64_xor_max a (by omega)]
    unfold vfold
    rw [if_pos hn]; omega
  · rw [show n / 9223372036854775808 % 18446744073709551616 = 0 by omega]
    obtain ⟨a, ha⟩ : ∃ a : Nat, wrap64 (n * 2) % 18446744073709551616 = (a : Int) := ⟨(wrap64 (n * 2) % 18446744073709551616).toNat, by omega⟩
    have ha2 : (a : Int) = n * 2 := by rw [← ha]; unfold wrap64; omega
    rw [ha, u64_xor_zero a (by omega)]
    unfold vfold
    rw [if_neg hn]; omega
theorem back_bits (n : Nat) (h : n < 18446744073709551616) : bits .xor .i64 ((n : Int) / 2) (wrap64 (-wrap64 (bits .and .u64 (n : Int) 1))) = vback n := by
  have h1 : bits .and .u64 (n : Int) 1 = ((n % 2 : Nat) : Int) := by
    have := u64_and_nat n 1 h (by omega)
    rw [nat_mask1] at this
    exact this
  rw [h1, show (n : Int) / 2 = ((n / 2 : Nat) : Int) by omega]
  unfold vback
  by_cases ho : n % 2 = 1
  · rw [if_pos ho, ho, show wrap64 (-wrap64 ((1 : Nat) : Int)) = -1 by unfold wrap64; omega, i64_xor_neg _ (by omega)]; omega
  · rw [if_neg ho, show n % 2 = 0 by omega, show wrap64 (-wrap64 ((0 : Nat) : Int)) = 0 by unfold wrap64; omega, i64_xor_zero _ (by omega)]

theorem varint_Back (n : Nat) (w : World) (hn : n < 18446744073709551616) :
    Calls Tryz.prog 173 #[.int .u64 n] w fun e w' => e = .returned (.int .i64 (vback n)) ∧ w = w' := by
  go_enter Tryz.func173, Tryz.ntmps173
  go_wp2
  go_ret
  exact ⟨ret_int (back_bits n hn), rfl⟩
/-! ### bytes in a row -/
theorem u8_or128 (m : Nat) : bits .or .u8 ((m : Int) % 256) 128 = ((m % 128 + 128 : Nat) : Int) := by
  have := u8_or_nat (m % 256) 128 (by omega) (by omega)
  rw [show ((m : Int) % 256) = ((m % 256 : Nat) : Int) by omega, show (128 : Int) = ((128 : Nat) : Int) from rfl, this]
  congr 1
  rw [Nat.or_comm]
  have h2 : 128 ||| m % 256 = 128 ||| (m % 128) := by
    apply Nat.eq_of_testBit_eq
    intro j
    rw [Nat.testBit_or, Nat.testBit_or, show (256 : Nat) = 2 ^ 8 from rfl, show (128 : Nat) = 2 ^ 7 from rfl, Nat.testBit_mod_two_pow, Nat.testBit_mod_two_pow, Nat.testBit_two_pow]
    by_cases hj : j = 7
    · subst hj; simp
    · by_cases h8 : j < 8
      · have : j < 7 := by omega
        simp [h8, this]
      · have : ¬ j < 7 := by omega
        simp [h8, this]
  rw [h2, nat_join 7 128 (m % 128) (by decide) (by omega), Nat.add_comm]
theorem bcell_ofNat {m : Nat} (h : m < 256) : bcell (UInt8.ofNat m) = .int .u8 (m : Int) := by
  unfold bcell; congr 1; simp; omega

end Go.Proofs.YtockkjhciojgbaaGreatDoor
/- VarGet -/
/- What varint's and its reference's Get answer. No condition. -/
namespace Go.Proofs.YtockkjhciojgbaaGreatDoor
set_option maxRecDepth 100000
set_option linter.unusedSimpArgs false
open Go.RowKit
set_option linter.unusedVariables false

def bl (s : ByteArray) : List UInt8 := s.data.toList
theorem bl_len (s : ByteArray) : (bl s).length = s.size := by unfold bl; rw [Array.length_toList]; rfl
theorem bl_at (s : ByteArray) (k : Nat) (h : k < s.size) : (bl s).drop k = s[k] :: (bl s).drop (k + 1) := by
  unfold bl
  rw [List.drop_eq_getElem_cons (by rw [Array.length_toList]; exact h)]
  rfl
def vg1 (s : ByteArray) : Int := ((vget (bl s)).1 : Int)
def vg2 (s : ByteArray) : Int := ((vget (bl s)).2.1 : Int)
def vg3 (s : ByteArray) : Int := ((vget (bl s)).2.2 : Int)
theorem u64_and127 (c : UInt8) : bits .and .u64 (c.toNat : Int) 127 = ((c.toNat % 128 : Nat) : Int) := by
  have := u64_and_nat c.toNat 127 (by have := c.toNat_lt; omega) (by omega)
  rw [nat_mask7] at this
  exact this

theorem pow128 (k : Nat) : (128 : Nat) ^ k = 2 ^ (7 * k) := by rw [Nat.pow_mul]
theorem or_join (m k d : Nat) (hm : m < 128 ^ k) (hd : d * 128 ^ k < 18446744073709551616) (hs : m + d * 128 ^ k < 18446744073709551616) :
    bits .or .u64 (m : Int) ((d * 128 ^ k : Nat) : Int) = ((m + d * 128 ^ k : Nat) : Int) := by
  rw [u64_or_nat m (d * 128 ^ k) (by omega) hd]
  congr 1
  rw [Nat.or_comm, nat_join (7 * k) (d * 128 ^ k) m (by rw [pow128]; exact Nat.mul_mod_left _ _) (by rw [← pow128]; exact hm), Nat.add_comm]
theorem or_join9 (m : Nat) (c : UInt8) (hm : m < 128 ^ 9) (hc : c.toNat % 128 ≤ 1) :
    bits .or .u64 (m : Int) ((c.toNat : Int) % 128 * 9223372036854775808) = ((m + c.toNat % 128 * 128 ^ 9 : Nat) : Int) := by
  rw [pow9] at hm
  have := or_join m 9 (c.toNat % 128) (by rw [pow9]; exact hm) (by rw [pow9]; omega) (by rw [pow9]; omega)
  rw [← this, pow9]; congr 1 <;> omega
theorem or_joink (m k : Nat) (c : UInt8) (hm : m < 128 ^ k) (hk : k ≤ 8) :
    bits .or .u64 (m : Int) (IntKind.u64.wrap ((c.toNat : Int) % 128 * 2 ^ (7 * k))) = ((m + c.toNat % 128 * 128 ^ k : Nat) : Int) := by
  have h8 : 128 ^ k ≤ 72057594037927936 := by
    have : (128 : Nat) ^ 8 = 72057594037927936 := by decide
    rw [← this]; exact Nat.pow_le_pow_right (by omega) hk
  have h1 : c.toNat % 128 * 128 ^ k ≤ 127 * 128 ^ k := Nat.mul_le_mul_right _ (by omega)
  have := or_join m k (c.toNat % 128) hm (by omega) (by omega)
  rw [← this]
  congr 1
  have e : (c.toNat : Int) % 128 * 2 ^ (7 * k) = ((c.toNat % 128 * 128 ^ k : Nat) : Int) := by
    rw [pow128]; push_cast; rfl
  rw [e, u64_wrap']
  omega
theorem vg_of {s : ByteArray} {a b c : Nat} (h : vget (bl s) = (a, b, c)) : vg1 s = a ∧ vg2 s = b ∧ vg3 s = c := by unfold vg1 vg2 vg3; rw [h]; exact ⟨rfl, rfl, rfl⟩

set_option maxRecDepth 100000 in
theorem varint_Get (s : ByteArray) (w : World) (hs : s.size ≤ maxLen) :
    Calls Tryz.prog 126 #[.string s] w fun e w' => e = .returned (.tuple #[.int .u64 (vg1 s), .int .i64 (vg2 s), .int .i64 (vg3 s)]) ∧ w = w' := by
  unfold maxLen at hs
  go_enter Tryz.func126, Tryz.ntmps126
  go_wp2
  go_loop [5, 10] (fun v5 v10 => ∃ k m : Nat, v10 = .int .i64 k ∧ v5 = .int .u64 m ∧ k ≤ s.size ∧ m < 128 ^ k ∧ k ≤ 10 ∧ Hid (vget (bl s) = vgetFrom k m ((bl s).drop k))) (fun _ v10 => s.size - (intOf v10).toNat)
  case atStart => exact ⟨0, 0, rfl, rfl, Nat.zero_le _, by decide, by omega, rfl⟩
  case round =>
    obtain ⟨k, m, rfl, rfl, hk, hm, hk10, HE⟩ := hrel
    by_cases hlt : k < s.size
    · obtain ⟨c, hc⟩ : ∃ c, s[k] = c := ⟨_, rfl⟩
      have hE2 := HE.out.trans (congrArg (vgetFrom k m) (bl_at s k hlt))
      rw [hc, vgetFrom] at hE2
      have hand := u64_and127 c
      have hcl := c.toNat_lt
      by_cases h9 : 9 < k ∨ (k = 9 ∧ 1 < c.toNat % 128)
      · rw [if_pos h9] at hE2
        obtain ⟨e1, e2, e3⟩ := vg_of hE2
        have H1 := hid' e1
        have H2 := hid' e2
        have H3 := hid' e3
        clear hE2 e1 e2 e3
        by_cases hk9 : 9 < k
        · go_wp2
          go_ret3
          exact ⟨by rw [H1.out, H2.out, H3.out] <;> rfl, rfl⟩
        · have : k = 9 := by omega
          subst this
          have hd : (1 : Int) < (c.toNat : Int) % 128 := by omega
          have hd2 : decide ((1 : Int) < (c.toNat : Int) % 128) = true := decide_eq_true hd
          go_wp2
          go_ret3
          exact ⟨by rw [H1.out, H2.out, H3.out] <;> rfl, rfl⟩
      · rw [if_neg h9] at hE2
        have HE3 := hid' hE2
        clear hE2
        have hk9 : k ≤ 9 := by omega
        have h128 : 128 ^ (k + 1) = 128 ^ k * 128 := Nat.pow_succ 128 k
        have hM : m + c.toNat % 128 * 128 ^ k < 128 ^ (k + 1) := by
          rw [h128]
          have : c.toNat % 128 * 128 ^ k ≤ 127 * 128 ^ k := Nat.mul_le_mul_right _ (by omega)
          omega
        have HM := hid' hM
        have HX := hid' (or_joink m k c hm)
        have HX9 := hid' (or_join9 m c)
        have HM0 := hid' hm
        clear h128 hM hm HE
        generalize hq : m + c.toNat % 128 * 128 ^ k = q at *
        have HQ := hid' hq
        clear hq
        by_cases hlow : c.toNat < 128
        · have HE4 := hid' (HE3.out.trans (if_pos hlow))
          by_cases hz : c.toNat = 0 ∧ 0 < k
          · obtain ⟨e1, e2, e3⟩ := vg_of (HE4.out.trans (if_pos hz))
            have H1 := hid' e1
            have H2 := hid' e2
            have H3 := hid' e3
            clear e1 e2 e3
            obtain ⟨hz1, hz2⟩ := hz
            have hzb : ((c.toNat : Int) == 0) = true := by rw [beq_iff_eq]; omega
            have hzb2 : (c.toNat == 0) = true := by rw [beq_iff_eq]; omega
            go_wp2
            all_goals (go_ret3; exact ⟨by rw [H1.out, H2.out, H3.out] <;> rfl, rfl⟩)
          · obtain ⟨e1, e2, e3⟩ := vg_of (HE4.out.trans (if_neg hz))
            have H1 := hid' e1
            have H2 := hid' e2
            have H3 := hid' e3
            clear e1 e2 e3
            by_cases hc0 : c.toNat = 0
            · have hk0 : k = 0 := by omega
              subst hk0
              have hm0 : m = 0 := by have := HM0.out; simp at this; omega
              subst hm0
              have HQ0 := hid' (show q = 0 by have := HQ.out; rw [hc0] at this; simpa using this.symm)
              have hz2 : bits .or .u64 0 (IntKind.u64.wrap 0) = 0 := by decide
              go_wp2
              go_ret3
              refine ⟨?_, rfl⟩
              rw [H1.out, H2.out, H3.out, HQ0.out]
              rfl
            have hcb : ((c.toNat : Int) == 0) = false := by rw [beq_eq_false_iff_ne]; omega
            have hcb2 : (c.toNat == 0) = false := by rw [beq_eq_false_iff_ne]; omega
            go_wp2
            all_goals
              go_ret3
              refine ⟨?_, rfl⟩
              rw [H1.out, H2.out, H3.out]
              first
                | (rw [HX.out (by omega)]; rfl)
                | (have hk9' : k = 9 := by omega
                   subst hk9'
                   rw [HX9.out HM0.out (by omega), HQ.out]; rfl)
        · have HE4 := hid' (HE3.out.trans (if_neg hlow))
          go_wp2
          all_goals
            go_round
            case rel =>
              refine ⟨k + 1, q, by first | go_num | (have : k = 9 := by omega
                                                     subst this; rfl), ?_, by omega, HM.out, by omega, HE4.out⟩
              first
                | (rw [HX.out (by omega)])
                | (have hk9' : k = 9 := by omega
                   subst hk9'
                   rw [HX9.out HM0.out (by omega), HQ.out])
            case measure => simp [intOf]; omega
    · obtain ⟨e1, e2, e3⟩ := vg_of (HE.out.trans (by rw [List.drop_eq_nil_of_le (by rw [bl_len]; omega)]))
      have H1 := hid' e1
      have H2 := hid' e2
      have H3 := hid' e3
      clear e1 e2 e3
      go_wp2
      go_ret3
      exact ⟨by rw [H1.out, H2.out, H3.out] <;> rfl, rfl⟩
end Go.Proofs.YtockkjhciojgbaaGreatDoor
/- VarGetR -/
/- What the reference's Get answers, and folded numbers read. No condition. -/
namespace Go.Proofs.YtockkjhciojgbaaGreatDoor
set_option maxRecDepth 100000
set_option linter.unusedSimpArgs false
open Go.RowKit
set_option linter.unusedVariables false

theorem varint_GetInt (s : ByteArray) (w : World) (hs : s.size ≤ maxLen) :
    Calls Tryz.prog 159 #[.string s] w fun e w' => e = .returned (.tuple #[.int .i64 (vback (vget (bl s)).1), .int .i64 (vg2 s), .int .i64 (vg3 s)]) ∧ w = w' := by
  have hlt := vgetFrom_lt (bl s) 0 0 (by decide)
  have HL := hid' hlt
  clear hlt
  go_enter Tryz.func159, Tryz.ntmps159
  go_wp2_with fail
  refine (varint_Get s _ hs).mono ?_
  rintro e w' ⟨rfl, rfl⟩
  go_wp2_with fail
  refine (varint_Back (vget (bl s)).1 _ HL.out).mono ?_
  rintro e w' ⟨rfl, rfl⟩
  go_wp2
  go_ret3
  exact ⟨rfl, rfl⟩

def oneOf (k : Nat) : Nat := 128 ^ k % 18446744073709551616
theorem one_next (k : Nat) : IntKind.u64.wrap ((oneOf k : Int) * 128) = (oneOf (k + 1) : Int) := by
  rw [u64_wrap']
  unfold oneOf
  rw [Nat.pow_succ]
  omega
theorem one_small {k : Nat} (h : k ≤ 9) : oneOf k = 128 ^ k := by
  unfold oneOf
  have := pow_le9 h
  exact Nat.mod_eq_of_lt (by omega)
theorem ref_sum {m k d : Nat} (hk : k ≤ 9) (hm : m < 128 ^ k) (hd : d ≤ 127) (h9 : k = 9 → d ≤ 1) :
    IntKind.u64.wrap ((m : Int) + IntKind.u64.wrap ((d : Int) * (oneOf k : Int))) = ((m + d * 128 ^ k : Nat) : Int) := by
  have hp := pow_le9 hk
  rw [one_small hk, u64_wrap', u64_wrap']
  have h1 : d * 128 ^ k < 9223372036854775809 := by
    by_cases h : k = 9
    · have := h9 h
      have : d * 128 ^ k ≤ 1 * 128 ^ k := Nat.mul_le_mul_right _ this
      omega
    · have h8 : 128 ^ k ≤ 72057594037927936 := by
        have : (128 : Nat) ^ 8 = 72057594037927936 := by decide
        rw [← this]; exact Nat.pow_le_pow_right (by omega) (by omega)
      have : d * 128 ^ k ≤ 127 * 128 ^ k := Nat.mul_le_mul_right _ hd
      omega
  have e : (d : Int) * ((128 ^ k : Nat) : Int) = ((d * 128 ^ k : Nat) : Int) := by push_cast; rfl
  rw [e]
  generalize d * 128 ^ k = z at *
  omega
theorem ref_sumc {m k : Nat} {c : UInt8} (hk : k ≤ 9) (hm : m < 128 ^ k) (h9 : k = 9 → c.toNat % 128 ≤ 1) :
    IntKind.u64.wrap ((m : Int) + IntKind.u64.wrap ((c.toNat : Int) % 128 * (oneOf k : Int))) = ((m + c.toNat % 128 * 128 ^ k : Nat) : Int) :=
  ref_sum (d := c.toNat % 128) hk hm (by omega) h9

end Go.Proofs.YtockkjhciojgbaaGreatDoor
/- VarPut -/
/- What varint.PutInt and the reference's Put answer. No condition. -/
namespace Go.Proofs.YtockkjhciojgbaaGreatDoor
set_option maxRecDepth 100000
set_option linter.unusedSimpArgs false
open Go.RowKit
set_option linter.unusedVariables false
set_option linter.unusedSimpArgs false

theorem own_empty (w : World) (e : TypeId) : OwnC (w.alloc (.cells #[] e)) w.heap.size (.slice (some ⟨w.heap.size, 0, none⟩) 0 0) 0 [] :=
  ⟨rfl, by unfold maxLen; omega, .inr ⟨w.heap.size, 0, rfl, Nat.le_refl _, by simp, Nat.le_refl _, fun j u hj => by simp at hj, fun j h1 h2 => by omega⟩⟩
theorem rem_cell (m : Nat) : (IntKind.u8.wrap (((m : Int) % 128) % 256 + 128)) = ((m % 128 + 128 : Nat) : Int) := by
  simp [IntKind.wrap, IntKind.bits, IntKind.signed]; omega

end Go.Proofs.YtockkjhciojgbaaGreatDoor
/- Crc -/
/- What the functions of crc answer. No condition. -/
namespace Go.Proofs.YtockkjhciojgbaaGreatDoor
set_option maxRecDepth 100000
set_option linter.unusedSimpArgs false
open Go.RowKit
set_option linter.unusedVariables false
set_option linter.unusedSimpArgs false

theorem u32_wrap' (n : Int) : IntKind.u32.wrap n = n % 4294967296 := by simp [IntKind.wrap, IntKind.bits, IntKind.signed]
theorem crc_bits (x : Nat) (h : x < 2 ^ 32) : bits .xor .u32 ((x : Int) / 2) (bits .and .u32 3988292384 (IntKind.u32.wrap (-(bits .and .u32 (x : Int) 1)))) = (cstep x : Int) := by
  have h1 : bits .and .u32 (x : Int) 1 = ((x % 2 : Nat) : Int) := by
    have := u32_and_nat x 1 (by omega) (by omega)
    rw [nat_mask1] at this
    exact this
  rw [h1, u32_wrap', show (x : Int) / 2 = ((x / 2 : Nat) : Int) by omega]
  unfold cstep
  by_cases ho : x % 2 = 1
  · rw [if_pos ho, ho]
    have h2 : bits .and .u32 3988292384 (-((1 : Nat) : Int) % 4294967296) = ((CP : Nat) : Int) := by decide
    rw [h2]
    exact u32_xor_nat _ _ (by omega) (by decide)
  · rw [if_neg ho, show x % 2 = 0 by omega]
    have h2 : bits .and .u32 3988292384 (-((0 : Nat) : Int) % 4294967296) = ((0 : Nat) : Int) := by decide
    rw [h2]
    exact u32_xor_nat _ _ (by omega) (by omega)
theorem csteps_snoc (k : Nat) : ∀ x, csteps (k + 1) x = cstep (csteps k x) := by
  intro x; rw [csteps_add k 1]; rfl

def tabOf (k : Nat) : Array Value := ((List.range 256).map fun i => Value.int .u32 (if i < k then (ctab i : Int) else 0)).toArray
theorem tabOf_set {k : Nat} (h : k < 256) : (tabOf k).setIfInBounds k (.int .u32 (ctab k)) = tabOf (k + 1) := by
  unfold tabOf
  rw [List.setIfInBounds_toArray]
  congr 1
  apply List.ext_getElem (by simp)
  intro i h1 h2
  simp only [List.length_set, List.length_map, List.length_range] at h1
  rw [List.getElem_set]
  by_cases hi : k = i
  · subst hi; simp
  · rw [if_neg hi]
    simp only [List.getElem_map, List.getElem_range]
    have : (i < k) = (i < k + 1) := by apply propext; omega
    simp only [this]
theorem tabOf_at {k i : Nat} (h : i < 256) : (tabOf k)[i]? = some (.int .u32 (if i < k then (ctab i : Int) else 0)) := by
  unfold tabOf
  simp [h]
theorem tabOf_size (k : Nat) : (tabOf k).size = 256 := by simp [tabOf]

theorem zero_tab (w : World) : (zeroValue 223).run Tryz.prog w = .ok (.agg (tabOf 0)) w := by kernel_rfl
set_option maxRecDepth 100000 in
theorem crc_New (w : World) :
    Calls Tryz.prog 127 #[] w fun e w' => ∃ g, e = .returned (.pointer (some ⟨g, 0, none⟩)) ∧ w.heap.size ≤ g ∧ Blk w' g 223 (tabOf 256) ∧ Below w.heap.size w w' := by
  have hz := zero_tab w
  go_enter Tryz.func127, Tryz.ntmps127
  go_wp2
  clear hz
  go_loopw [2, 3, 6] (fun v2 v3 v6 wr => ∃ k : Nat, v6 = .int .i64 k ∧ k ≤ 256 ∧ Blk wr w.heap.size 223 (tabOf k) ∧ Below w.heap.size w wr) (fun _ _ v6 _ => (256 - intOf v6).toNat)
  case atStart => exact ⟨0, rfl, by omega, Blk.new_ w 223 (tabOf 0), (by repeat (first | assumption | apply bel_alloc | apply bel_drewN | apply bel_drew | exact bel_refl _))⟩
  case round =>
    obtain ⟨k, rfl, hk, hblk, hbel⟩ := hrel
    have HBK := hid' hblk
    have HBL := hid' hbel
    by_cases hlt : k < 256
    · clear hblk hbel
      go_wp2
      go_loop [3, 11] (fun v3 v11 => ∃ j : Nat, v3 = .int .u32 (csteps j k) ∧ v11 = .int .i64 j ∧ j ≤ 8) (fun _ v11 => (8 - intOf v11).toNat)
      case atStart => exact ⟨0, rfl, rfl, by omega⟩
      case round =>
        obtain ⟨j, rfl, rfl, hj⟩ := hrel
        have hc := csteps_lt j (x := k) (by omega)
        have hb := crc_bits _ hc
        rw [← csteps_snoc, u32_wrap'] at hb
        by_cases hj8 : j < 8
        · go_wp2
          go_round
          case rel => exact ⟨j + 1, by simp [hb], by go_num, by omega⟩
          case measure => simp [intOf]; omega
        · have hj8' : j = 8 := by omega
          subst hj8'
          have hcell := (HBK.out.cell k).trans (by rw [tabOf_at (by omega)])
          have hfr := HBK.out.frozen k
          go_wp2
          refine ⟨⟨k + 1, by go_num, by omega, (HBK.out.set k _).cast (tabOf_set hlt), bel_set HBL.out (Nat.le_refl _) _⟩, ?_⟩
          simp [intOf]; omega
    · have : k = 256 := by omega
      subst this
      go_wp2
      go_ret
      exact ⟨_, rfl, Nat.le_refl _, HBK.out, HBL.out⟩

def crcStr (s : ByteArray) : Nat := csum (bl s)
def cregAt (s : ByteArray) (k : Nat) : Nat := creg ((bl s).take k)
theorem cregAt_succ (s : ByteArray) (k : Nat) (h : k < s.size) : cregAt s (k + 1) = ctab ((cregAt s k ^^^ (s[k]).toNat) % 256) ^^^ (cregAt s k / 256) := by
  have hb : (bl s).take (k + 1) = (bl s).take k ++ [s[k]] := by
    refine take_snoc' ?_
    unfold bl
    rw [Array.getElem?_toList, Array.getElem?_eq_getElem (by exact h)]
    rfl
  unfold cregAt
  rw [hb, creg_snoc]
theorem cregAt_lt (s : ByteArray) (k : Nat) : cregAt s k < 2 ^ 32 := creg_lt _
theorem cregAt_all (s : ByteArray) : CM ^^^ cregAt s s.size = crcStr s := by
  unfold cregAt crcStr csum
  rw [List.take_of_length_le (by rw [bl_len]; exact Nat.le_refl _)]
theorem u8_low (x : Nat) (c : UInt8) : bits .xor .u8 ((x : Int) % 256) (c.toNat : Int) = (((x ^^^ c.toNat) % 256 : Nat) : Int) := by
  have hc := c.toNat_lt
  have := u8_xor_nat (x % 256) c.toNat (by omega) hc
  rw [show ((x : Int) % 256) = ((x % 256 : Nat) : Int) by omega, this]
  congr 1
  apply Nat.eq_of_testBit_eq
  intro j
  rw [Nat.testBit_xor, show (256 : Nat) = 2 ^ 8 from rfl, Nat.testBit_mod_two_pow, Nat.testBit_mod_two_pow, Nat.testBit_xor]
  by_cases h : j < 8
  · simp [h]
  · have : c.toNat.testBit j = false := Nat.testBit_lt_two_pow (Nat.lt_of_lt_of_le hc (Nat.pow_le_pow_right (by omega) (by omega)))
    simp [h, this]

set_option maxRecDepth 100000 in
theorem crc_Sum (g : Nat) (s : ByteArray) (w : World) (hs : s.size ≤ maxLen) (hg : Blk w g 223 (tabOf 256)) :
    Calls Tryz.prog 172 #[.pointer (some ⟨g, 0, none⟩), .string s] w fun e w' => e = .returned (.int .u32 (crcStr s)) ∧ Dr w w' := by
  unfold maxLen at hs
  have HG := hid' hg
  clear hg
  go_enter Tryz.func172, Tryz.ntmps172
  go_wp2
  go_loopw [5, 6, 9] (fun v5 v6 v9 wr => ∃ k : Nat, v9 = .int .i64 k ∧ v5 = .int .u32 (cregAt s k) ∧ k ≤ s.size ∧ Dr w wr) (fun _ _ v9 _ => (s.size - intOf v9).toNat)
  case atStart => exact ⟨0, rfl, by unfold cregAt; rfl, by omega, (by repeat (first | exact Dr.refl _ | apply Dr.step | apply Dr.stepd))⟩
  case round =>
    obtain ⟨k, rfl, rfl, hk, hdr⟩ := hrel
    have hx := cregAt_lt s k
    by_cases hlt : k < s.size
    · have H1 := u8_low (cregAt s k) s[k]
      have hlow : (cregAt s k ^^^ (s[k]).toNat) % 256 < 256 := by omega
      have hnx := cregAt_succ s k hlt
      have HX : bits .xor .u32 (ctab ((cregAt s k ^^^ (s[k]).toNat) % 256) : Int) ((cregAt s k : Int) / 256) = (cregAt s (k + 1) : Int) := by
        rw [hnx, show (cregAt s k : Int) / 256 = ((cregAt s k / 256 : Nat) : Int) by omega]
        exact u32_xor_nat _ _ (csteps_lt 8 (by omega)) (by omega)
      have hcell : wr.cell? ⟨g, (cregAt s k ^^^ (s[k]).toNat) % 256, none⟩ = some (.int .u32 (ctab ((cregAt s k ^^^ (s[k]).toNat) % 256))) := by
        have hB : Blk wr g 223 (tabOf 256) := HG.out.below hdr.below
        rw [hB.cell, tabOf_at hlow, if_pos hlow]
      have HDR := hid' hdr
      clear hdr hnx
      generalize hc : s[k] = c at *
      generalize hy : (cregAt s k ^^^ c.toNat) % 256 = y at *
      have hy1 : (y : Int) < 256 := by omega
      have hy0 : (0 : Int) ≤ (y : Int) := by omega
      clear hy hlow
      go_wp2
      go_region
      go_wp2
      go_roundw
      case rel => exact ⟨k + 1, by go_num, by simp [HX], by omega, HDR.out.stepd⟩
      case measure => simp [intOf]; omega
    · have hk' : k = s.size := by omega
      subst hk'
      have HX : bits .xor .u32 IntKind.u32.max (cregAt s s.size : Int) = (crcStr s : Int) := by
        have := u32_xor_nat CM (cregAt s s.size) (by decide) (by omega)
        rw [cregAt_all] at this
        exact this
      go_wp2
      go_ret
      exact ⟨rfl, hdr⟩

/-- The four bytes of a sum, the highest first. -/
def cbytes (n : Nat) : List UInt8 := [UInt8.ofNat (n / 16777216), UInt8.ofNat (n / 65536 % 256), UInt8.ofNat (n / 256 % 256), UInt8.ofNat (n % 256)]
def cseal (s : ByteArray) : ByteArray := s ++ strOf (cbytes (crcStr s))
theorem crcStr_lt (s : ByteArray) : crcStr s < 2 ^ 32 := Nat.xor_lt_two_pow (by decide) (creg_lt _)
theorem own_four (w : World) (e : TypeId) (a b c d : UInt8) : OwnC (w.alloc (.cells #[bcell a, bcell b, bcell c, bcell d] e)) w.heap.size (.slice (some ⟨w.heap.size, 0, none⟩) 4 4) 4 ([a, b, c, d].map bcell) :=
  ⟨rfl, by unfold maxLen; omega, .inr ⟨w.heap.size, 4, rfl, Nat.le_refl _, by simp, Nat.le_refl _, fun j u hj => by
    rw [(Blk.new_ w e #[bcell a, bcell b, bcell c, bcell d]).cell]
    simpa using hj, fun j h1 h2 => by omega⟩⟩
set_option maxRecDepth 100000 in
theorem crc_Seal (g : Nat) (s : ByteArray) (w : World) (hs : s.size ≤ 1000000) (hg : Blk w g 223 (tabOf 256)) :
    Calls Tryz.prog 157 #[.pointer (some ⟨g, 0, none⟩), .string s] w fun e w' => e = .returned (.string (cseal s)) ∧ Below w.heap.size w w' := by
  unfold cseal
  have hn := crcStr_lt s
  have HG := hid' hg
  clear hg
  go_enter Tryz.func157, Tryz.ntmps157
  go_wp2_with fail
  refine (crc_Sum g s w (by unfold maxLen; omega) HG.out).mono ?_
  rintro e w1 ⟨rfl, hdr⟩
  have h4 := own_four w1 5 (UInt8.ofNat (crcStr s / 16777216)) (UInt8.ofNat (crcStr s / 65536 % 256)) (UInt8.ofNat (crcStr s / 256 % 256)) (UInt8.ofNat (crcStr s % 256))
  have hconv := h4.string (P := Tryz.prog) 62 9 5 (by kernel_rfl) (by kernel_rfl) (by kernel_rfl)
  rw [bcell_ofNat (by omega), bcell_ofNat (by omega), bcell_ofNat (by omega), bcell_ofNat (by omega)] at hconv
  rw [show ((crcStr s / 16777216 : Nat) : Int) = (crcStr s : Int) / 16777216 by omega, show ((crcStr s / 65536 % 256 : Nat) : Int) = (crcStr s : Int) / 65536 % 256 by omega,
    show ((crcStr s / 256 % 256 : Nat) : Int) = (crcStr s : Int) / 256 % 256 by omega, show ((crcStr s % 256 : Nat) : Int) = (crcStr s : Int) % 256 by omega] at hconv
  have hz : (strOf (cbytes (crcStr s))).size = 4 := rfl
  have HC := hid' hconv
  change Hid (_ = Result.ok (Value.string (strOf (cbytes (crcStr s)))) _) at HC
  clear hconv h4
  generalize hte : strOf (cbytes (crcStr s)) = t at HC hz
  have hz2 : s.size + t.size ≤ 9223372036854775807 := by omega
  go_wp2
  rw [HC.out]
  go_wp2
  go_ret
  exact ⟨by rw [hte] <;> rfl, bel_alloc hdr.below _⟩

/-! ### sealed bytes opened -/
theorem str_ext {a b : ByteArray} (h : a.toList = b.toList) : a = b := by
  rw [ByteArray.toList_eq, ByteArray.toList_eq] at h
  exact ByteArray.ext (Array.ext' h)
def copen (s : ByteArray) : Option ByteArray := if s.size < 4 then none else if cseal (s.extract 0 (s.size - 4)) = s then some (s.extract 0 (s.size - 4)) else none
theorem extract_size (s : ByteArray) (k : Nat) (h : k ≤ s.size) : (s.extract 0 k).size = k := by simp; omega
def copS (s : ByteArray) : Value := match copen s with | some x => .string x | none => .string ⟨#[]⟩
def copB (s : ByteArray) : Bool := (copen s).isSome
set_option maxRecDepth 100000 in
theorem crc_Open (g : Nat) (s : ByteArray) (w : World) (hs : s.size ≤ 1000000) (hg : Blk w g 223 (tabOf 256)) :
    Calls Tryz.prog 128 #[.pointer (some ⟨g, 0, none⟩), .string s] w fun e w' => e = .returned (.tuple #[copS s, .bool (copB s)]) ∧ Below w.heap.size w w' := by
  have HG := hid' hg
  clear hg
  by_cases h4 : s.size < 4
  · have h1 : copS s = .string ⟨#[]⟩ := by unfold copS copen; rw [if_pos h4]
    have h2 : copB s = false := by unfold copB copen; rw [if_pos h4]; rfl
    rw [h1, h2]
    go_enter Tryz.func128, Tryz.ntmps128
    go_wp2
    go_ret2
    exact ⟨rfl, (by repeat (first | assumption | apply bel_alloc | apply bel_drewN | apply bel_drew | exact bel_refl _))⟩
  · have hz := extract_size s (s.size - 4) (by omega)
    by_cases he : cseal (s.extract 0 (s.size - 4)) = s
    · have h1 : copS s = .string (s.extract 0 (s.size - 4)) := by unfold copS copen; rw [if_neg h4, if_pos he]
      have h2 : copB s = true := by unfold copB copen; rw [if_neg h4, if_pos he]; rfl
      rw [h1, h2]
      have HE := hid' he
      clear he h1 h2
      go_enter Tryz.func128, Tryz.ntmps128
      go_wp2_with fail
      refine (crc_Seal g (s.extract 0 (s.size - 4)) w (by omega) HG.out).mono ?_
      rintro e w1 ⟨rfl, hb⟩
      rw [HE.out]
      go_wp2
      go_ret2
      exact ⟨rfl, hb⟩
    · have h1 : copS s = .string ⟨#[]⟩ := by unfold copS copen; rw [if_neg h4, if_neg he]
      have h2 : copB s = false := by unfold copB copen; rw [if_neg h4, if_neg he]; rfl
      rw [h1, h2]
      have HE := hid' (show (cseal (s.extract 0 (s.size - 4))).toList ≠ s.toList from fun h => he (str_ext h))
      clear he h1 h2
      go_enter Tryz.func128, Tryz.ntmps128
      go_wp2_with fail
      refine (crc_Seal g (s.extract 0 (s.size - 4)) w (by omega) HG.out).mono ?_
      rintro e w1 ⟨rfl, hb⟩
      generalize cseal (s.extract 0 (s.size - 4)) = t at *
      have hne : (t.toList == s.toList) = false := by rw [beq_eq_false_iff_ne]; exact HE.out
      go_wp2
      go_ret2
      exact ⟨rfl, hb⟩
end Go.Proofs.YtockkjhciojgbaaGreatDoor
/- CrcRef -/
/- What the reference's sum answers: a division, bit by bit, is the register's sum. No condition. -/
namespace Go.Proofs.YtockkjhciojgbaaGreatDoor
set_option maxRecDepth 100000
set_option linter.unusedSimpArgs false
open Go.RowKit
set_option linter.unusedVariables false
set_option linter.unusedSimpArgs false

/-! ### the plain law -/
def powL : List Nat := [26, 23, 22, 16, 12, 11, 10, 8, 7, 5, 4, 2, 1, 0]
def pw (n : Nat) : Bool := powL.contains n
theorem pw_CP : ∀ j, j < 32 → CP.testBit j = pw (31 - j) := by decide
def bitAt (s : List UInt8) (i : Nat) : Bool := (s.getD (i / 8) 0).toNat.testBit (i % 8)
theorem bitAt_out (s : List UInt8) (i : Nat) (h : 8 * s.length ≤ i) : bitAt s i = false := by
  unfold bitAt
  rw [List.getD_eq_getElem?_getD, List.getElem?_eq_none (by omega)]
  simp
def regF (s : List UInt8) : Nat → Nat
  | 0 => CM
  | i + 1 => cstep (regF s i ^^^ (bitAt s i).toNat)
theorem bitsOf_get (s : List UInt8) : ∀ i, i < 8 * s.length → (bitsOf s)[i]? = some (bitAt s i) := by
  induction s with
  | nil => intro i h; simp at h
  | cons c s ih =>
    intro i h
    rw [bitsOf, List.flatMap_cons]
    by_cases h8 : i < 8
    · rw [List.getElem?_append_left (by rw [byteBits_len]; exact h8)]
      have h0 : i / 8 = 0 := by omega
      have h1 : i % 8 = i := by omega
      unfold bitAt byteBits
      rw [h0, h1]
      simp [h8]
    · rw [List.getElem?_append_right (by rw [byteBits_len]; omega), byteBits_len]
      have := ih (i - 8) (by simp at h; omega)
      rw [bitsOf] at this
      rw [this]
      unfold bitAt
      rw [show i / 8 = (i - 8) / 8 + 1 by omega, show i % 8 = (i - 8) % 8 by omega]
      simp
theorem regF_feed (s : List UInt8) : ∀ i, i ≤ 8 * s.length → regF s i = feed CM ((bitsOf s).take i) := by
  intro i
  induction i with
  | zero => intro _; simp [regF, feed]
  | succ i ih =>
    intro h
    rw [regF, ih (by omega), take_snoc' (bitsOf_get s i (by omega)), feed_append]
    rfl
theorem regF_all (s : List UInt8) : regF s (8 * s.length) = creg s := by
  rw [regF_feed s _ (Nat.le_refl _), List.take_of_length_le (by rw [bitsOf_len]; exact Nat.le_refl _)]
  rfl
theorem regF_lt (s : List UInt8) (i : Nat) : regF s i < 2 ^ 32 := by
  induction i with
  | zero => show CM < 2 ^ 32; decide
  | succ i ih => rw [regF]; exact cstep_lt (Nat.xor_lt_two_pow ih (by cases bitAt s i <;> decide))

/-- The row at round i: the register over the bits to come. -/
def win (s : List UInt8) (i : Nat) (f : Nat → Bool) : Prop := ∀ j, f (i + j) = ((regF s i).testBit j ^^ bitAt s (i + j))
def divOne (i k : Nat) (f : Nat → Bool) : Nat → Bool := fun j => if i < j ∧ j < i + k then f j ^^ pw (32 - (j - i)) else f j
theorem win_start (s : List UInt8) (f : Nat → Bool) (h : ∀ j, f j = if j < 32 then !(bitAt s j) else bitAt s j) : win s 0 f := by
  intro j
  rw [Nat.zero_add, h, regF]
  have hc : CM.testBit j = decide (j < 32) := by
    have : CM = 2 ^ 32 - 1 := rfl
    rw [this, Nat.testBit_two_pow_sub_one]
  rw [hc]
  by_cases hj : j < 32
  · simp [hj]
  · simp [hj]
theorem win_step0 (s : List UInt8) (i : Nat) (f : Nat → Bool) (h : win s i f) (h0 : f i = false) : win s (i + 1) f := by
  have ht := h 0
  rw [Nat.add_zero, h0, Nat.testBit_zero] at ht
  intro j
  have := h (j + 1)
  rw [show i + 1 + j = i + (j + 1) by omega, this, regF, cstep_bit, Nat.testBit_xor, Nat.testBit_xor]
  have hb : (bitAt s i).toNat.testBit (j + 1) = false := by cases bitAt s i <;> simp [Nat.testBit_succ]
  have hz : (bitAt s i).toNat.testBit 0 = bitAt s i := by cases bitAt s i <;> rfl
  rw [hb, hz, Nat.testBit_zero]
  rw [← ht]
  simp
theorem win_step1 (s : List UInt8) (i : Nat) (f : Nat → Bool) (h : win s i f) (h1 : f i = true) : win s (i + 1) (divOne i 33 f) := by
  have ht := h 0
  rw [Nat.add_zero, h1, Nat.testBit_zero] at ht
  intro j
  have := h (j + 1)
  rw [show i + 1 + j = i + (j + 1) by omega, regF, cstep_bit, Nat.testBit_xor, Nat.testBit_xor]
  have hb : (bitAt s i).toNat.testBit (j + 1) = false := by cases bitAt s i <;> simp [Nat.testBit_succ]
  have hz : (bitAt s i).toNat.testBit 0 = bitAt s i := by cases bitAt s i <;> rfl
  rw [hb, hz, Nat.testBit_zero, ← ht]
  unfold divOne
  by_cases hj : j < 32
  · rw [if_pos (by omega), this, pw_CP j hj, show 32 - (i + (j + 1) - i) = 31 - j by omega]
    cases (regF s i).testBit (j + 1) <;> cases bitAt s (i + (j + 1)) <;> cases pw (31 - j) <;> rfl
  · rw [if_neg (by omega), this, CP_bit (by omega)]
    simp
theorem divOne_one (i : Nat) (f : Nat → Bool) : divOne i 1 f = f := by
  funext j; unfold divOne; rw [if_neg (by omega)]
def updB (f : Nat → Bool) (i : Nat) (b : Bool) : Nat → Bool := fun j => if j = i then b else f j
theorem divOne_succ (i k : Nat) (f : Nat → Bool) (hk : 1 ≤ k) : updB (divOne i k f) (i + k) (f (i + k) ^^ pw (32 - k)) = divOne i (k + 1) f := by
  funext j
  unfold updB divOne
  by_cases hj : j = i + k
  · rw [if_pos hj, if_pos (by omega), hj, show i + k - i = k by omega]
  · rw [if_neg hj]
    by_cases h2 : i < j ∧ j < i + k
    · rw [if_pos h2, if_pos (by omega)]
    · rw [if_neg h2, if_neg (by omega)]
theorem divOne_at (i k : Nat) (f : Nat → Bool) : divOne i k f (i + k) = f (i + k) := by unfold divOne; rw [if_neg (by omega)]

/-! ### the row's cells -/
def bcells (f : Nat → Bool) (m : Nat) : Array Value := ((List.range m).map fun i => Value.int .i64 ((f i).toNat : Int)).toArray
theorem bcells_size (f : Nat → Bool) (m : Nat) : (bcells f m).size = m := by simp [bcells]
theorem bcells_at (f : Nat → Bool) {m i : Nat} (h : i < m) : (bcells f m)[i]? = some (.int .i64 ((f i).toNat : Int)) := by
  unfold bcells
  simp [h]
theorem bcells_set (f : Nat → Bool) {m i : Nat} (h : i < m) (b : Bool) : (bcells f m).setIfInBounds i (.int .i64 (b.toNat : Int)) = bcells (updB f i b) m := by
  unfold bcells
  rw [List.setIfInBounds_toArray]
  congr 1
  apply List.ext_getElem (by simp)
  intro j h1 h2
  simp only [List.length_set, List.length_map, List.length_range] at h1
  rw [List.getElem_set]
  by_cases hi : i = j
  · subst hi; simp [updB]
  · rw [if_neg hi]
    simp only [List.getElem_map, List.getElem_range]
    have : updB f i b j = f j := by unfold updB; rw [if_neg (Ne.symm hi)]
    rw [this]
theorem bcells_congr {f g : Nat → Bool} {m : Nat} (h : ∀ i, i < m → f i = g i) : bcells f m = bcells g m := by
  unfold bcells
  congr 1
  apply List.map_congr_left
  intro i hi
  rw [h i (List.mem_range.1 hi)]
theorem bcells_made (m : Nat) : madeCells #[Value.int .i64 0] m = bcells (fun _ => false) m := by
  apply Array.ext'
  rw [toList_madeCells_one]
  unfold bcells
  simp only [Bool.toNat_false, Int.natCast_zero]
  rw [List.map_const', List.length_range]
/-! ### the walks -/
def powV : Array Value := #[Value.int .i64 26, Value.int .i64 23, Value.int .i64 22, Value.int .i64 16, Value.int .i64 12, Value.int .i64 11, Value.int .i64 10, Value.int .i64 8, Value.int .i64 7, Value.int .i64 5, Value.int .i64 4, Value.int .i64 2, Value.int .i64 1, Value.int .i64 0]
theorem powV_at (k c : Nat) (h : powL[k]? = some c) : powV[k]? = some (Value.int .i64 (c : Int)) := by
  have : powV = (powL.map fun (x : Nat) => Value.int .i64 (x : Int)).toArray := rfl
  rw [this, List.getElem?_toArray, List.getElem?_map, h]
  rfl
theorem bit_next (c k : Nat) : (c / 2 ^ k) / 2 = c / 2 ^ (k + 1) := by rw [Nat.pow_succ, Nat.div_div_eq_div_mul]
theorem bit_last (c k : Nat) : (c / 2 ^ k) % 2 = (c.testBit k).toNat := by
  rw [Nat.testBit_eq_decide_div_mod_eq]
  rcases Nat.mod_two_eq_zero_or_one (c / 2 ^ k) with h | h <;> rw [h] <;> rfl
end Go.Proofs.YtockkjhciojgbaaGreatDoor
/- CrcRefB -/
/- What the reference's Sum and Seal answer. No condition. -/
namespace Go.Proofs.YtockkjhciojgbaaGreatDoor
set_option maxRecDepth 100000
set_option linter.unusedSimpArgs false
open Go.RowKit
set_option linter.unusedVariables false
set_option linter.unusedSimpArgs false

def f1 (l : List UInt8) (i : Nat) : Nat → Bool := fun j => if j < i then bitAt l j else false
def f2 (l : List UInt8) (i : Nat) : Nat → Bool := fun j => if j < i then !(bitAt l j) else bitAt l j
theorem f1_zero (l : List UInt8) : f1 l 0 = fun _ => false := by funext j; simp [f1]
theorem f1_succ (l : List UInt8) (i : Nat) : updB (f1 l i) i (bitAt l i) = f1 l (i + 1) := by
  funext j; unfold updB f1
  by_cases h : j = i
  · subst h; simp
  · rw [if_neg h]
    have : (j < i) = (j < i + 1) := by apply propext; omega
    simp only [this]
theorem f2_zero (l : List UInt8) : f1 l (8 * l.length) = f2 l 0 := by
  funext j; unfold f1 f2
  by_cases h : j < 8 * l.length
  · simp [h]
  · simp [h, bitAt_out l j (by omega)]
theorem f2_succ (l : List UInt8) (i : Nat) : updB (f2 l i) i (!(bitAt l i)) = f2 l (i + 1) := by
  funext j; unfold updB f2
  by_cases h : j = i
  · subst h; simp
  · rw [if_neg h]
    have : (j < i) = (j < i + 1) := by apply propext; omega
    simp only [this]
theorem f2_win (l : List UInt8) : win l 0 (f2 l 32) := win_start l _ fun j => rfl
theorem not_nat (b : Bool) : (1 : Int) - (b.toNat : Int) = ((!b).toNat : Int) := by cases b <;> rfl
theorem xor_nat2 (a b : Bool) : ((a.toNat : Int) + (b.toNat : Int)) % 2 = ((a ^^ b).toNat : Int) := by cases a <;> cases b <;> rfl
theorem down_step (x k : Nat) : x / 2 ^ (k + 1) * 2 + (x.testBit k).toNat = x / 2 ^ k := by
  rw [← bit_last, ← bit_next]; omega
theorem csum_bit (l : List UInt8) (k : Nat) (h : k < 32) : (csum l).testBit k = !((creg l).testBit k) := by
  unfold csum
  rw [Nat.testBit_xor]
  have hc : CM.testBit k = decide (k < 32) := by
    have : CM = 2 ^ 32 - 1 := rfl
    rw [this, Nat.testBit_two_pow_sub_one]
  rw [hc]; simp [h]

end Go.Proofs.YtockkjhciojgbaaGreatDoor
/- CrcRefC -/
/- What the reference's Seal answers. No condition. -/
namespace Go.Proofs.YtockkjhciojgbaaGreatDoor
set_option maxRecDepth 100000
set_option linter.unusedSimpArgs false
open Go.RowKit
set_option linter.unusedVariables false
set_option linter.unusedSimpArgs false

theorem own_blk {w : World} {base g : Nat} {e : TypeId} {cs : Array Value} {n : Nat} {xs : List Value} (h : Blk w g e cs) (hb : base ≤ g) (hx : cs.toList = xs) (hn : n = cs.size) (hm : n ≤ maxLen) : OwnC w base (.slice (some ⟨g, 0, none⟩) n n) n xs := by
  subst hx hn
  refine ⟨by simp, hm, .inr ⟨g, _, rfl, hb, h.lt, Nat.le_refl _, fun j u hj => ?_, fun j h1 h2 => by omega⟩⟩
  rw [h.cell]
  simpa using hj
def sbyte (n k i : Nat) (b : Nat) : Value := if k ≤ i then .int .u8 (b : Int) else .int .u8 0
def scells (n k : Nat) : Array Value := #[sbyte n k 0 (n / 16777216 % 256), sbyte n k 1 (n / 65536 % 256), sbyte n k 2 (n / 256 % 256), sbyte n k 3 (n % 256)]

end Go.Proofs.YtockkjhciojgbaaGreatDoor
/- LawCrc -/
/- The laws of layer 3 (crc), walked: the sums, and what is opened. No condition. -/
namespace Go.Proofs.YtockkjhciojgbaaGreatDoor
set_option maxRecDepth 100000
set_option linter.unusedSimpArgs false
open Go.RowKit
set_option linter.unusedVariables false
set_option linter.unusedSimpArgs false

def lit19 : ByteArray := { data := #[49, 50, 51, 52, 53, 54, 55, 56, 57] }
theorem crc_lit19 : crcStr lit19 = 3421780262 := by kernel_rfl
theorem seal_lit0 : cseal { data := #[] } = { data := #[0, 0, 0, 0] } := by kernel_rfl
theorem cseal_size (s : ByteArray) : (cseal s).size = s.size + 4 := by
  unfold cseal
  rw [ByteArray.size_append]
  rfl
theorem cseal_cut (s : ByteArray) : (cseal s).extract 0 ((cseal s).size - 4) = s := by
  rw [cseal_size]
  apply ByteArray.ext
  rw [ByteArray.data_extract]
  unfold cseal
  rw [ByteArray.data_append]
  apply Array.ext'
  rw [Array.toList_extract]
  have hl : s.data.toList.length = s.size := by rw [Array.length_toList]; rfl
  simp [List.extract_eq_take_drop]
theorem copen_seal (s : ByteArray) : copen (cseal s) = some s := by
  unfold copen
  rw [if_neg (by rw [cseal_size]; omega), cseal_cut, if_pos rfl]

end Go.Proofs.YtockkjhciojgbaaGreatDoor
/- FramePure -/
/- Records as bytes, as a plain law: there and back, one spelling. No program. -/
namespace Go.Proofs.YtockkjhciojgbaaGreatDoor
set_option maxRecDepth 100000
set_option linter.unusedSimpArgs false
open Go.RowKit
set_option linter.unusedVariables false
set_option linter.unusedSimpArgs false

def kindOk (k : Int) : Bool := k == 1 || k == 2
def headB (r : Rec) : List UInt8 := UInt8.ofNat (r.1 % 256).toNat :: vput (vfold r.2.1)
def recBody (r : Rec) : ByteArray := strOf (headB r) ++ r.2.2
def fCheck (r : Rec) : Int := if kindOk r.1 = true then (if 65536 < (recBody r).size then 4 else 0) else 3
def fFull (r : Rec) : ByteArray := strOf (vput (recBody r).size) ++ cseal (recBody r)
def zRec : Rec := (0, 0, ByteArray.empty)
def fOpen (b : ByteArray) : Rec × Int :=
  if kindOk (((bl b).getD 0 0).toNat : Int) = true then
    if (vget ((bl b).drop 1)).2.2 = 0 then ((((bl b).getD 0 0).toNat, vback (vget ((bl b).drop 1)).1, b.extract (1 + (vget ((bl b).drop 1)).2.1) b.size), 0) else (zRec, (vget ((bl b).drop 1)).2.2)
  else (zRec, 3)
def fGet (s : ByteArray) : Rec × Int × Int :=
  if (vget (bl s)).2.2 = 0 then
    if (vget (bl s)).1 < 2 ∨ 65536 < (vget (bl s)).1 then (zRec, 0, 4) else
    if s.size < (vget (bl s)).2.1 + (vget (bl s)).1 + 4 then (zRec, 0, 1) else
    match copen (s.extract (vget (bl s)).2.1 ((vget (bl s)).2.1 + (vget (bl s)).1 + 4)) with
    | none => (zRec, 0, 5)
    | some b => if (fOpen b).2 = 0 then ((fOpen b).1, ((vget (bl s)).2.1 + (vget (bl s)).1 + 4 : Nat), 0) else (zRec, 0, (fOpen b).2)
  else (zRec, 0, (vget (bl s)).2.2)

theorem bl_app (a b : ByteArray) : bl (a ++ b) = bl a ++ bl b := by unfold bl; rw [ByteArray.data_append]; simp
theorem bl_str (l : List UInt8) : bl (strOf l) = l := rfl
theorem str_bl (s : ByteArray) : strOf (bl s) = s := by
  apply ByteArray.ext
  unfold strOf bl
  apply Array.ext'; simp
theorem bl_inj {a b : ByteArray} (h : bl a = bl b) : a = b := by rw [← str_bl a, ← str_bl b, h]
theorem bl_ext (s : ByteArray) (i j : Nat) : bl (s.extract i j) = ((bl s).drop i).take (j - i) := by
  unfold bl
  rw [ByteArray.data_extract]
  simp [List.take_drop]
theorem size_bl (s : ByteArray) : s.size = (bl s).length := (bl_len s).symm
theorem bl_seal (b : ByteArray) : bl (cseal b) = bl b ++ cbytes (crcStr b) := by unfold cseal; rw [bl_app]; rfl
theorem copen_some {x b : ByteArray} (h : copen x = some b) : cseal b = x ∧ x.size = b.size + 4 := by
  unfold copen at h
  split at h
  · cases h
  · split at h
    · rename_i h1 h2
      simp only [Option.some.injEq] at h
      rw [h] at h2
      exact ⟨h2, by rw [← h2]; exact cseal_size b⟩
    · cases h
theorem recBody_bl (r : Rec) : bl (recBody r) = headB r ++ bl r.2.2 := by unfold recBody; rw [bl_app]; rfl
theorem recBody_size (r : Rec) : (recBody r).size = 1 + (vput (vfold r.2.1)).length + r.2.2.size := by
  rw [size_bl, recBody_bl, List.length_append, ← size_bl]; unfold headB; simp; omega
theorem fOpen_body {r : Rec} (hk : kindOk r.1 = true) (ht : I64 r.2.1) : fOpen (recBody r) = (r, 0) := by
  have hk2 : r.1 = 1 ∨ r.1 = 2 := by unfold kindOk at hk; simpa using hk
  have h0 : (((bl (recBody r)).getD 0 0).toNat : Int) = r.1 := by
    rw [recBody_bl]; unfold headB
    rcases hk2 with h | h <;> rw [h] <;> rfl
  have h1 : (bl (recBody r)).drop 1 = vput (vfold r.2.1) ++ bl r.2.2 := by rw [recBody_bl]; rfl
  have hv := vget_put (vfold r.2.1) (bl r.2.2) (vfold_lt ht)
  unfold fOpen
  rw [h0, if_pos hk, h1, hv]
  simp only [if_true]
  rw [vback_fold]
  have hx : (recBody r).extract (1 + (vput (vfold r.2.1)).length) (recBody r).size = r.2.2 := by
    apply bl_inj
    rw [bl_ext, recBody_bl, show headB r ++ bl r.2.2 = (headB r) ++ bl r.2.2 from rfl, show 1 + (vput (vfold r.2.1)).length = (headB r).length by unfold headB; simp; omega, List.drop_left, List.take_of_length_le]
    rw [recBody_size, ← size_bl]; unfold headB; simp; omega
  rw [hx]
/-- THERE AND BACK. -/
theorem fGet_full {r : Rec} (hc : fCheck r = 0) (ht : I64 r.2.1) (more : ByteArray) : fGet (fFull r ++ more) = (r, ((fFull r).size : Int), 0) := by
  unfold fCheck at hc
  split at hc
  · rename_i hk
    split at hc
    · cases hc
    · rename_i hle
      have hpos := vput_pos (vfold r.2.1)
      have hsz := recBody_size r
      obtain ⟨N, hN⟩ : ∃ N : Nat, N = (recBody r).size := ⟨_, rfl⟩
      have hb : bl (fFull r ++ more) = vput N ++ (bl (cseal (recBody r)) ++ bl more) := by
        unfold fFull; rw [bl_app, bl_app, bl_str, hN, List.append_assoc]
      have hv := vget_put N (bl (cseal (recBody r)) ++ bl more) (by omega)
      rw [← hb] at hv
      have hfs : (fFull r).size = (vput N).length + N + 4 := by
        unfold fFull; rw [size_bl, bl_app, List.length_append, bl_str, ← size_bl, cseal_size, hN]; omega
      have hts : (fFull r ++ more).size = (fFull r).size + more.size := by rw [size_bl, bl_app, List.length_append, ← size_bl, ← size_bl]
      have hx : (fFull r ++ more).extract (vput N).length ((vput N).length + N + 4) = cseal (recBody r) := by
        apply bl_inj
        rw [bl_ext, hb, List.drop_left, show (vput N).length + N + 4 - (vput N).length = (bl (cseal (recBody r))).length by rw [← size_bl, cseal_size]; omega, List.take_left]
      unfold fGet
      rw [hv]
      simp only [if_true]
      rw [if_neg (by omega), if_neg (by omega), hx, copen_seal]
      simp only [fOpen_body hk ht, if_true]
      rw [hfs]
  · cases hc
/-- ONE SPELLING. -/
theorem fGet_one {s : ByteArray} {r : Rec} {n : Int} (h : fGet s = (r, n, 0)) (hs : s.size ≤ 1000000) : ∃ k : Nat, n = (k : Int) ∧ k ≤ s.size ∧ fFull r = s.extract 0 k ∧ fCheck r = 0 ∧ I64 r.2.1 ∧ 0 < k := by
  unfold fGet at h
  split at h
  case isFalse he =>
    injection h with _ h; injection h with _ h
    exact absurd (by exact_mod_cast h) he
  case isTrue he =>
    split at h
    · injection h with _ h; injection h with _ h; cases h
    · rename_i hsz
      split at h
      · injection h with _ h; injection h with _ h; cases h
      · rename_i hend
        split at h
        · injection h with _ h; injection h with _ h; cases h
        · rename_i b hop
          split at h
          · rename_i ho
            injection h with h1 h
            injection h with h2 _
            obtain ⟨q, hq⟩ : ∃ q, q = (vget (bl s)).1 := ⟨_, rfl⟩
            obtain ⟨m, hm⟩ : ∃ m, m = (vget (bl s)).2.1 := ⟨_, rfl⟩
            rw [← hq] at hsz
            rw [← hq, ← hm] at hend hop h2
            obtain ⟨v1, v2, v3⟩ := vget_one (bl s) q m (by rw [hq, hm, ← he])
            obtain ⟨c1, c2⟩ := copen_some hop
            have hxs : (s.extract m (m + q + 4)).size = q + 4 := by rw [size_bl, bl_ext, List.length_take, List.length_drop, ← size_bl]; omega
            have hbs : b.size = q := by omega
            unfold fOpen at h1 ho
            split at ho
            · rename_i hk
              rw [if_pos hk] at h1
              split at ho
              · rename_i hv0
                rw [if_pos hv0] at h1
                obtain ⟨t, htt⟩ : ∃ t, t = (vget ((bl b).drop 1)).1 := ⟨_, rfl⟩
                obtain ⟨d, hd⟩ : ∃ d, d = (vget ((bl b).drop 1)).2.1 := ⟨_, rfl⟩
                obtain ⟨w1, w2, w3⟩ := vget_one ((bl b).drop 1) t d (by rw [htt, hd, ← hv0])
                have hlt : t < 18446744073709551616 := by rw [htt]; exact vgetFrom_lt _ 0 0 (by decide)
                rw [← htt, ← hd] at h1
                have hbl0 : 0 < (bl b).length := by rw [← size_bl]; omega
                have hbody : recBody r = b := by
                  apply bl_inj
                  rw [recBody_bl, ← h1]
                  unfold headB
                  simp only
                  rw [vfold_back hlt, w1, bl_ext]
                  have hc : UInt8.ofNat ((((bl b).getD 0 0).toNat : Int) % 256).toNat = (bl b).getD 0 0 := by
                    have := ((bl b).getD 0 0).toNat_lt
                    rw [show ((((bl b).getD 0 0).toNat : Int) % 256).toNat = ((bl b).getD 0 0).toNat by omega]
                    exact UInt8.ofNat_toNat
                  rw [hc]
                  obtain ⟨c, rest, hcr⟩ : ∃ c rest, bl b = c :: rest := by
                    cases hb : bl b with
                    | nil => rw [hb] at hbl0; simp at hbl0
                    | cons c rest => exact ⟨c, rest, rfl⟩
                  have hsb : b.size = 1 + rest.length := by rw [size_bl, hcr]; simp; omega
                  rw [hcr, hsb]
                  simp only [List.getD_cons_zero, List.drop_succ_cons, List.drop_zero, List.cons_append, List.cons.injEq, true_and]
                  rw [show 1 + d = d + 1 by omega, List.drop_succ_cons, show 1 + rest.length - (d + 1) = rest.length - d by omega, List.take_of_length_le (l := rest.drop d) (by simp), List.take_append_drop]
                refine ⟨m + q + 4, by rw [← h2], by omega, ?_, ?_, ?_, by omega⟩
                · apply bl_inj
                  unfold fFull
                  rw [hbody, hbs, bl_app, bl_str, v1, c1, bl_ext, bl_ext, List.drop_zero, Nat.sub_zero, show m + q + 4 - m = q + 4 by omega, show m + q + 4 = m + (q + 4) by omega]; exact List.take_add.symm
                · unfold fCheck
                  rw [hbody, hbs, ← h1, if_pos hk, if_neg (by omega)]
                · rw [← h1]; exact vback_I64 hlt
              · rename_i hv0
                exact absurd (by have h9 : ((vget ((bl b).drop 1)).2.2 : Int) = 0 := ho; exact_mod_cast h9) hv0
            · cases ho
          · rename_i ho
            injection h with _ h; injection h with _ h
            exact absurd h ho
end Go.Proofs.YtockkjhciojgbaaGreatDoor
/- Frame -/
/- What the functions of frame compute, and their reference. No condition. -/
namespace Go.Proofs.YtockkjhciojgbaaGreatDoor
set_option maxRecDepth 100000
set_option linter.unusedSimpArgs false
open Go.RowKit
set_option linter.unusedVariables false
set_option linter.unusedSimpArgs false

def recV (r : Rec) : Value := .agg #[.int .i64 r.1, .int .i64 r.2.1, .string r.2.2]
theorem frame_Kind (k : Int) (w : World) : Calls Tryz.prog 158 #[.int .i64 k] w fun e w' => e = .returned (.bool (kindOk k)) ∧ w = w' := by
  by_cases h1 : k = 1
  · subst h1
    go_enter Tryz.func158, Tryz.ntmps158
    go_wp2
    go_ret
    exact ⟨rfl, rfl⟩
  · by_cases h2 : k = 2
    · subst h2
      go_enter Tryz.func158, Tryz.ntmps158
      go_wp2
      go_ret
      exact ⟨rfl, rfl⟩
    · have e1 : (k == 1) = false := by rw [beq_eq_false_iff_ne]; exact h1
      have e2 : (k == 2) = false := by rw [beq_eq_false_iff_ne]; exact h2
      have HD := hid' (show kindOk k = false by unfold kindOk; rw [e1, e2]; rfl)
      clear h1 h2
      go_enter Tryz.func158, Tryz.ntmps158
      go_wp2
      go_ret
      exact ⟨ret_bool HD.out.symm, rfl⟩
theorem byte_cell (k : Int) : bcell (UInt8.ofNat (k % 256).toNat) = .int .u8 (k % 256) := by
  rw [bcell_ofNat (by omega)]; congr 1; omega
theorem own_one (w : World) (e : TypeId) (a : UInt8) : OwnC (w.alloc (.cells #[bcell a] e)) w.heap.size (.slice (some ⟨w.heap.size, 0, none⟩) 1 1) 1 ([a].map bcell) :=
  ⟨rfl, by unfold maxLen; omega, .inr ⟨w.heap.size, 1, rfl, Nat.le_refl _, by simp, Nat.le_refl _, fun j u hj => by
    rw [(Blk.new_ w e #[bcell a]).cell]
    simpa using hj, fun j h1 h2 => by omega⟩⟩
theorem own_byte (w : World) (e : TypeId) (k : Int) : OwnC (w.alloc (.cells #[.int .u8 (k % 256)] e)) w.heap.size (.slice (some ⟨w.heap.size, 0, none⟩) 1 1) 1 ([UInt8.ofNat (k % 256).toNat].map bcell) := by
  have := own_one w e (UInt8.ofNat (k % 256).toNat)
  rwa [byte_cell] at this
theorem conv_byte (w : World) (k : Int) : (convert 62 9 (.slice (some ⟨w.heap.size, 0, none⟩) 1 1)).run Tryz.prog (w.alloc (.cells #[.int .u8 (k % 256)] 5)) = .ok (.string (strOf [UInt8.ofNat (k % 256).toNat])) (w.alloc (.cells #[.int .u8 (k % 256)] 5)) :=
  (own_byte w 5 k).string 62 9 5 (by kernel_rfl) (by kernel_rfl) (by kernel_rfl)
theorem vput10 (n : Nat) (h : n < 18446744073709551616) : (vput n).length ≤ 10 := by
  have := vput_len 9 n (by have : (128 : Nat) ^ (9 + 1) = 1180591620717411303424 := by decide
                           omega)
  omega
theorem body_eq (r : Rec) : recBody r = strOf [UInt8.ofNat (r.1 % 256).toNat] ++ strOf (vput (vfold r.2.1)) ++ r.2.2 := by
  apply bl_inj
  rw [recBody_bl, bl_app, bl_app, bl_str, bl_str]
  rfl
def byteStr (k : Int) : ByteArray := strOf [UInt8.ofNat (k % 256).toNat]
theorem byteStr_size (k : Int) : (byteStr k).size = 1 := rfl
theorem u8_wrap' (n : Int) : IntKind.u8.wrap n = n % 256 := by simp [IntKind.wrap, IntKind.bits, IntKind.signed]
theorem conv_byteW (w w' : World) (k : Int) (hb : Below (w.alloc (.cells #[.int .u8 (IntKind.u8.wrap k)] 5)).heap.size (w.alloc (.cells #[.int .u8 (IntKind.u8.wrap k)] 5)) w') :
    (convert 62 9 (.slice (some ⟨w.heap.size, 0, none⟩) 1 1)).run Tryz.prog w' = .ok (.string (byteStr k)) w' := by
  rw [u8_wrap'] at hb
  exact ((own_byte w 5 k).below hb).string 62 9 5 (by kernel_rfl) (by kernel_rfl) (by kernel_rfl)
theorem cells_below {W W' : World} {b : Nat} {x y z : Value} (h : W.cell? ⟨b, 0, none⟩ = some x ∧ W.cell? ⟨b, 1, none⟩ = some y ∧ W.cell? ⟨b, 2, none⟩ = some z) (hb : Below W.heap.size W W') :
    W'.cell? ⟨b, 0, none⟩ = some x ∧ W'.cell? ⟨b, 1, none⟩ = some y ∧ W'.cell? ⟨b, 2, none⟩ = some z := by
  have hl : b < W.heap.size := World.block_lt_of_cell? W _ h.1
  exact ⟨(hb.cell (p := ⟨b, 0, none⟩) hl).trans h.1, (hb.cell (p := ⟨b, 1, none⟩) hl).trans h.2.1, (hb.cell (p := ⟨b, 2, none⟩) hl).trans h.2.2⟩
end Go.Proofs.YtockkjhciojgbaaGreatDoor
/- FrameB -/
/- frame.Encode and its reference. No condition. -/
namespace Go.Proofs.YtockkjhciojgbaaGreatDoor
set_option maxRecDepth 100000
set_option linter.unusedSimpArgs false
open Go.RowKit
set_option linter.unusedVariables false
set_option linter.unusedSimpArgs false

theorem kindOk_two {k : Int} (h : kindOk k = true) : k = 1 ∨ k = 2 := by unfold kindOk at h; simpa using h
theorem kindOk_not {k : Int} (h : ¬ kindOk k = true) : k ≠ 1 ∧ k ≠ 2 := by
  refine ⟨fun e => h (by rw [e]; rfl), fun e => h (by rw [e]; rfl)⟩
theorem recBody_le (r : Rec) (ht : I64 r.2.1) : (recBody r).size ≤ 11 + r.2.2.size := by
  have := recBody_size r
  have := vput10 _ (vfold_lt ht)
  omega
end Go.Proofs.YtockkjhciojgbaaGreatDoor
/- FrameC -/
/- frame.Encode. No condition. -/
namespace Go.Proofs.YtockkjhciojgbaaGreatDoor
set_option maxRecDepth 100000
set_option linter.unusedSimpArgs false
open Go.RowKit
set_option linter.unusedVariables false
set_option linter.unusedSimpArgs false

def fEncS (r : Rec) : ByteArray := if fCheck r = 0 then fFull r else ⟨#[]⟩
theorem cells_mod {S : Nat → Prop} {W W' : World} {b : Nat} {x y z : Value} (h : W.cell? ⟨b, 0, none⟩ = some x ∧ W.cell? ⟨b, 1, none⟩ = some y ∧ W.cell? ⟨b, 2, none⟩ = some z) (hm : Mod S W W') (hs : ¬ S b) :
    W'.cell? ⟨b, 0, none⟩ = some x ∧ W'.cell? ⟨b, 1, none⟩ = some y ∧ W'.cell? ⟨b, 2, none⟩ = some z :=
  ⟨hm.cell h.1 hs, hm.cell h.2.1 hs, hm.cell h.2.2 hs⟩
theorem own_byteW (w : World) (k : Int) : OwnC (w.alloc (.cells #[.int .u8 (IntKind.u8.wrap k)] 5)).drew w.heap.size (.slice (some ⟨w.heap.size, 0, none⟩) 1 1) 1 ([UInt8.ofNat (k % 256).toNat].map bcell) := by
  rw [u8_wrap']
  exact (own_byte w 5 k).below (bel_drew (bel_refl _))
end Go.Proofs.YtockkjhciojgbaaGreatDoor
/- FrameD -/
/- frame.open and frame.Get. No condition. -/
namespace Go.Proofs.YtockkjhciojgbaaGreatDoor
set_option maxRecDepth 100000
set_option linter.unusedSimpArgs false
open Go.RowKit
set_option linter.unusedVariables false
set_option linter.unusedSimpArgs false

theorem bl_tail (b : ByteArray) : bl (b.extract 1 b.size) = (bl b).drop 1 := by
  rw [bl_ext, List.take_of_length_le]
  rw [List.length_drop, ← size_bl]; omega
theorem bl_head (b : ByteArray) (h : 0 < b.size) : (bl b).getD 0 0 = b[0] := by
  have := bl_at b 0 h
  rw [List.drop_zero] at this
  rw [this]; rfl
theorem vg3_kind (s : ByteArray) : vg3 s = 0 ∨ vg3 s = 1 ∨ vg3 s = 2 := by
  have h2 : vg3 s = ((vget (bl s)).2.2 : Int) := rfl
  rw [h2]
  have : (vget (bl s)).2.2 = 0 ∨ (vget (bl s)).2.2 = 1 ∨ (vget (bl s)).2.2 = 2 := vgetFrom_kind (bl s) 0 0
  omega
set_option maxHeartbeats 1000000 in
theorem frame_open (b : ByteArray) (w : World) (h1 : 0 < b.size) (hs : b.size ≤ 200000) :
    Calls Tryz.prog 129 #[.string b] w fun e w' => e = .returned (.tuple #[recV (fOpen b).1, .int .i64 (fOpen b).2]) ∧ Below w.heap.size w w' := by
  have hz : (zeroValue 106).run Tryz.prog w = .ok (.agg #[.int .i64 0, .int .i64 0, .string ⟨#[]⟩]) w := by kernel_rfl
  have hI : (0 : Int) < (b.size : Int) := by omega
  have hlen : b.size ≤ 9223372036854775807 := by omega
  have hcl := (b[0]).toNat_lt
  have hcw : wrap64 ((b[0]).toNat : Int) = ((b[0]).toNat : Int) := by unfold wrap64; omega
  have hcw2 : IntKind.i64.wrap ((b[0]).toNat : Int) = ((b[0]).toNat : Int) := by rw [IntKind.wrap_i64]; omega
  have hF : fOpen b = if kindOk ((b[0]).toNat : Int) = true then
      if vg3 (b.extract 1 b.size) = 0 then ((((b[0]).toNat : Int), vback (vget (bl (b.extract 1 b.size))).1, b.extract (1 + (vget (bl (b.extract 1 b.size))).2.1) b.size), 0) else (zRec, vg3 (b.extract 1 b.size))
    else (zRec, 3) := by
    unfold fOpen vg3
    rw [bl_tail, bl_head b h1]
    split
    · by_cases he : (vget ((bl b).drop 1)).2.2 = 0
      · rw [if_pos he, if_pos (by exact_mod_cast he)]
      · rw [if_neg he, if_neg (by exact_mod_cast he)]
    · rfl
  have HGI := hid' (fun w => varint_GetInt (b.extract 1 b.size) w (by simp; unfold maxLen; omega))
  have HK := hid' (fun w => frame_Kind ((b[0]).toNat : Int) w)
  have hxs : (b.extract 1 b.size).size = b.size - 1 := by simp
  have hone := vget_one (bl (b.extract 1 b.size)) (vget (bl (b.extract 1 b.size))).1 (vget (bl (b.extract 1 b.size))).2.1
  have hk3 := vg3_kind (b.extract 1 b.size)
  have e2 : vg2 (b.extract 1 b.size) = ((vget (bl (b.extract 1 b.size))).2.1 : Int) := rfl
  have e3 : vg3 (b.extract 1 b.size) = ((vget (bl (b.extract 1 b.size))).2.2 : Int) := rfl
  rw [bl_len, hxs] at hone
  by_cases hk : kindOk ((b[0]).toNat : Int) = true
  · rw [hk] at HK
    rw [if_pos hk] at hF
    by_cases h0 : vg3 (b.extract 1 b.size) = 0
    · rw [if_pos h0] at hF
      have hd := (hone (by
        have : (vget (bl (b.extract 1 b.size))).2.2 = 0 := by rw [e3] at h0; exact_mod_cast h0
        rw [← this])).2.2
      rw [h0, e2] at HGI
      rw [hF]
      clear hF hone hk3 e2 e3 h0 hk hxs
      generalize (vget (bl (b.extract 1 b.size))).2.1 = d at *
      generalize (vget (bl (b.extract 1 b.size))).1 = m at *
      obtain ⟨q, hq⟩ : ∃ q, q = 1 + d := ⟨_, rfl⟩
      have hqI : (1 : Int) + (d : Int) = (q : Int) := by omega
      have hqw : IntKind.i64.wrap (q : Int) = (q : Int) := by rw [IntKind.wrap_i64]; omega
      have hq0 : (0 : Int) ≤ (q : Int) := by omega
      have hqb : (q : Int) ≤ (b.size : Int) := by omega
      rw [← hq]
      clear hq
      unfold recV
      simp only
      go_enter Tryz.func129, Tryz.ntmps129
      go_wp2_with (first
        | (go_at_call 158; (try rw [hcw]); refine (HK.out _).mono ?_; rintro e w' ⟨rfl, rfl⟩)
        | (go_at_call 159; refine (HGI.out _).mono ?_; rintro e w' ⟨rfl, rfl⟩))
      go_region
      all_goals
        go_wp2
        (try simp only [Exit.inBlock, Exit.then])
        refine bodyPost_ret (v := .tuple #[.agg #[.int .i64 ((b[0]).toNat : Int), .int .i64 (vback m), .string (b.extract q b.size)], .int .i64 0]) ?_ rfl ⟨rfl, (by repeat (first | assumption | apply bel_alloc | apply bel_drewN | apply bel_drew | exact bel_refl _))⟩
        rw [results_cell_tmp rfl]; go_simp
    · rw [if_neg h0] at hF
      have hk3 := hk3.resolve_left h0
      rw [hF]
      clear hF hone e2 e3 h0 hk hxs
      rcases hk3 with h | h
      all_goals
        rw [h] at HGI ⊢
        unfold recV
        simp only [zRec]
        go_enter Tryz.func129, Tryz.ntmps129
        go_wp2_with (first
          | (go_at_call 158; (try rw [hcw]); refine (HK.out _).mono ?_; rintro e w' ⟨rfl, rfl⟩)
          | (go_at_call 159; refine (HGI.out _).mono ?_; rintro e w' ⟨rfl, rfl⟩))
        (try simp only [Exit.inBlock, Exit.then])
        refine bodyPost_ret (v := .tuple #[.agg #[.int .i64 0, .int .i64 0, .string ⟨#[]⟩], .int .i64 _]) ?_ rfl ⟨rfl, (by repeat (first | assumption | apply bel_alloc | apply bel_drewN | apply bel_drew | exact bel_refl _))⟩
        rw [results_cell_tmp rfl]; go_simp
  · rw [show kindOk ((b[0]).toNat : Int) = false by simpa using hk] at HK
    rw [if_neg hk] at hF
    rw [hF]
    clear hF hone hk3 e2 e3 hk hxs
    unfold recV
    simp only [zRec]
    go_enter Tryz.func129, Tryz.ntmps129
    go_wp2_with (go_at_call 158; (try rw [hcw]); refine (HK.out _).mono ?_; rintro e w' ⟨rfl, rfl⟩)
    (try simp only [Exit.inBlock, Exit.then])
    refine bodyPost_ret (v := .tuple #[.agg #[.int .i64 0, .int .i64 0, .string ⟨#[]⟩], .int .i64 3]) ?_ rfl ⟨rfl, (by repeat (first | assumption | apply bel_alloc | apply bel_drewN | apply bel_drew | exact bel_refl _))⟩
    rw [results_cell_tmp rfl]; go_simp
end Go.Proofs.YtockkjhciojgbaaGreatDoor
/- FrameE -/
/- frame.Get. No condition. -/
namespace Go.Proofs.YtockkjhciojgbaaGreatDoor
set_option maxRecDepth 100000
set_option linter.unusedSimpArgs false
open Go.RowKit
set_option linter.unusedVariables false
set_option linter.unusedSimpArgs false

theorem results_cell_tmp2 {fn : Func} {p u x : Tmp} {ty : TypeId} (h : fn.results = #[.cell p ty, .tmp u, .tmp x]) (tmps : Array Value) (P : Program) (w : World) :
    (results fn tmps).run P w =
      ((asAddr (tmps.getD p undef)).run P w).andThen fun a w₁ => ((loadVar ty a).run P w₁).andThen fun v w₂ => .ok (.tuple #[v, tmps.getD u undef, tmps.getD x undef]) w₂ := by
  simp only [results, h]
  simp [Sem.run_bind, Result.andThen]
theorem open_kind (b : ByteArray) : (fOpen b).2 = 0 ∨ (fOpen b).2 = 1 ∨ (fOpen b).2 = 2 ∨ (fOpen b).2 = 3 := by
  unfold fOpen
  split
  · split
    · exact .inl rfl
    · have := vgetFrom_kind ((bl b).drop 1) 0 0
      have : (vget ((bl b).drop 1)).2.2 = 0 ∨ (vget ((bl b).drop 1)).2.2 = 1 ∨ (vget ((bl b).drop 1)).2.2 = 2 := this
      rcases this with h | h | h <;> rw [h] <;> simp
  · exact .inr (.inr (.inr rfl))
set_option maxHeartbeats 2000000 in
theorem frame_Get (s : ByteArray) (w : World) (hs : s.size ≤ 200000) :
    Calls Tryz.prog 86 #[.string s] w fun e w' => e = .returned (.tuple #[recV (fGet s).1, .int .i64 (fGet s).2.1, .int .i64 (fGet s).2.2]) ∧ Below w.heap.size w w' := by
  have hz : (zeroValue 106).run Tryz.prog w = .ok (.agg #[.int .i64 0, .int .i64 0, .string ⟨#[]⟩]) w := by kernel_rfl
  have hlen : s.size ≤ 9223372036854775807 := by omega
  have HG := hid' (fun w => varint_Get s w (by unfold maxLen; omega))
  have e1 : vg1 s = ((vget (bl s)).1 : Int) := rfl
  have e2 : vg2 s = ((vget (bl s)).2.1 : Int) := rfl
  have e3 : vg3 s = ((vget (bl s)).2.2 : Int) := rfl
  have hk3 := vg3_kind s
  have hone := vget_one (bl s) (vget (bl s)).1 (vget (bl s)).2.1
  have hlt := vgetFrom_lt (bl s) 0 0 (by decide)
  have hlt : (vget (bl s)).1 < 18446744073709551616 := hlt
  rw [bl_len] at hone
  obtain ⟨R, hR⟩ : ∃ R, R = fGet s := ⟨_, rfl⟩
  rw [← hR]
  unfold fGet at hR
  by_cases h0 : (vget (bl s)).2.2 = 0
  · rw [if_pos h0] at hR
    have hm := (hone (by rw [← h0])).2.2
    rw [e1, e2, e3, h0] at HG
    clear e1 e2 e3 hk3 hone h0
    generalize (vget (bl s)).2.1 = m at *
    generalize (vget (bl s)).1 = q at *
    by_cases hq1 : q < 2
    · rw [if_pos (.inl hq1)] at hR
      subst hR
      unfold recV
      simp only [zRec]
      go_enter Tryz.func86, Tryz.ntmps86
      go_wp2_with (go_at_call 126; refine (HG.out _).mono ?_; rintro e w' ⟨rfl, rfl⟩)
      all_goals first | (exfalso; omega) | skip
      (try simp only [Exit.inBlock, Exit.then])
      refine bodyPost_ret (v := .tuple #[.agg #[.int .i64 0, .int .i64 0, .string ⟨#[]⟩], .int .i64 0, .int .i64 4]) ?_ rfl ⟨rfl, ?_⟩
      · rw [results_cell_tmp2 rfl]; go_simp
      · exact (by repeat (first | assumption | apply bel_alloc | apply bel_drewN | apply bel_drew | exact bel_refl _))
    by_cases hq2 : 65536 < q
    · rw [if_pos (.inr hq2)] at hR
      subst hR
      unfold recV
      simp only [zRec]
      go_enter Tryz.func86, Tryz.ntmps86
      go_wp2_with (go_at_call 126; refine (HG.out _).mono ?_; rintro e w' ⟨rfl, rfl⟩)
      all_goals first | (exfalso; omega) | skip
      (try simp only [Exit.inBlock, Exit.then])
      refine bodyPost_ret (v := .tuple #[.agg #[.int .i64 0, .int .i64 0, .string ⟨#[]⟩], .int .i64 0, .int .i64 4]) ?_ rfl ⟨rfl, ?_⟩
      · rw [results_cell_tmp2 rfl]; go_simp
      · exact (by repeat (first | assumption | apply bel_alloc | apply bel_drewN | apply bel_drew | exact bel_refl _))
    rw [if_neg (by omega)] at hR
    obtain ⟨mq, hmq⟩ : ∃ mq, mq = m + q := ⟨_, rfl⟩
    obtain ⟨E, hE⟩ : ∃ E, E = mq + 4 := ⟨_, rfl⟩
    have i1 : (m : Int) + (q : Int) = (mq : Int) := by omega
    have i2 : (mq : Int) + 4 = (E : Int) := by omega
    have hwq : wrap64 (q : Int) = (q : Int) := by unfold wrap64; omega
    rw [show m + q + 4 = E by omega] at hR
    have hmE : m ≤ E := by omega
    have hxs0 : s.size < E ∨ (s.extract m E).size = q + 4 := by simp; omega
    have hEb : E ≤ 300004 := by omega
    clear hmq hE
    by_cases hend : s.size < E
    · rw [if_pos hend] at hR
      subst hR
      unfold recV
      simp only [zRec]
      go_enter Tryz.func86, Tryz.ntmps86
      go_wp2_with (go_at_call 126; refine (HG.out _).mono ?_; rintro e w' ⟨rfl, rfl⟩)
      all_goals first | (exfalso; omega) | skip
      (try simp only [Exit.inBlock, Exit.then])
      refine bodyPost_ret (v := .tuple #[.agg #[.int .i64 0, .int .i64 0, .string ⟨#[]⟩], .int .i64 0, .int .i64 1]) ?_ rfl ⟨rfl, ?_⟩
      · rw [results_cell_tmp2 rfl]; go_simp
      · exact (by repeat (first | assumption | apply bel_alloc | apply bel_drewN | apply bel_drew | exact bel_refl _))
    rw [if_neg hend] at hR
    have hxs := hxs0.resolve_left hend
    have j1 : (0 : Int) ≤ (m : Int) := by omega
    have j2 : (m : Int) ≤ (E : Int) := by omega
    have j3 : (E : Int) ≤ (s.size : Int) := by omega
    have hS : copS (s.extract m E) = match copen (s.extract m E) with | some x => .string x | none => .string ⟨#[]⟩ := rfl
    have hB : copB (s.extract m E) = (copen (s.extract m E)).isSome := rfl
    have HO := hid' (fun g w hg => crc_Open g (s.extract m E) w (by omega) hg)
    rw [hS, hB] at HO
    cases hop : copen (s.extract m E) with
    | none =>
      rw [hop] at hR HO
      simp only at hR HO
      subst hR
      unfold recV
      simp only [zRec, Option.isSome_none] at HO ⊢
      go_enter Tryz.func86, Tryz.ntmps86
      go_wp2_with (go_at_call 126; refine (HG.out _).mono ?_; rintro e w' ⟨rfl, rfl⟩)
      all_goals first | (exfalso; omega) | skip
      have hbk := Blk.new_ w 106 #[.int .i64 0, .int .i64 0, .string ⟨#[]⟩]
      have hB1 := bel_alloc (bel_refl w) (.cells #[.int .i64 0, .int .i64 0, .string ⟨#[]⟩] 106)
      generalize w.alloc (.cells #[.int .i64 0, .int .i64 0, .string ⟨#[]⟩] 106) = w1 at *
      generalize hB0 : w.heap.size = b0 at *
      have HB0 := hid' hB0
      have HB1 := hid' hB1
      have HBK := hid' hbk
      clear hB0 hB1 hbk hz hxs0 hS hB
      go_region_with (first
        | (go_at_call 127; refine (crc_New _).mono ?_; rintro e w5 ⟨g, rfl, hgl, hgN, hB5⟩)
        | (go_at_call 128; refine (HO.out g _ hgN).mono ?_; rintro e w6 ⟨rfl, hB6⟩
           have HK6 := hid' ((HBK.out.drew.below hB5).below hB6)
           have HL6 := hid' (show Below b0 w w6 from HB1.out.trans ((bel_then (bel_then (bel_drew (bel_refl w1)) hB5) hB6).mono (by have := HB1.out.size; have := HB0.out; omega)))
           have c0 : w6.cell? ⟨b0, 0, none⟩ = some (.int .i64 0) := by simpa using HK6.out.cell 0
           have c1 : w6.cell? ⟨b0, 1, none⟩ = some (.int .i64 0) := by simpa using HK6.out.cell 1
           have c2 : w6.cell? ⟨b0, 2, none⟩ = some (.string ⟨#[]⟩) := by simpa using HK6.out.cell 2
           have f0 := HK6.out.frozen 0
           have f1 := HK6.out.frozen 1
           have f2 := HK6.out.frozen 2
           clear hB5 hB6 hgl hgN))
      go_wp2
      all_goals
        (try simp only [Exit.inBlock, Exit.then])
        refine bodyPost_ret (v := .tuple #[.agg #[.int .i64 0, .int .i64 0, .string ⟨#[]⟩], .int .i64 0, .int .i64 5]) ?_ rfl ⟨rfl, ?_⟩
        · rw [results_cell_tmp2 rfl]; go_simp
        · rw [HB0.out]; repeat (first | exact HL6.out | refine Below.setCell ?_ (by exact Nat.le_refl _) _ | refine Below.alloc ?_ (by have := HL6.out.size; have := HB0.out; omega) _)
    | some b =>
      rw [hop] at hR HO
      simp only at hR HO
      have hbs := (copen_some hop).2
      have HOp := hid' (fun w => frame_open b w (by omega) (by omega))
      have hkk := open_kind b
      obtain ⟨⟨k2, t2, x2⟩, f, hfo⟩ : ∃ r f, fOpen b = (r, f) := ⟨_, _, rfl⟩
      rw [hfo] at HOp hR hkk
      simp only at HOp hR hkk
      unfold recV at HOp
      simp only at HOp
      have h2b : b.size = q := by omega
      by_cases hf : f = 0
      · rw [if_pos hf] at hR
        subst hf
        subst hR
        unfold recV
        simp only [Option.isSome_some] at HO ⊢
        go_enter Tryz.func86, Tryz.ntmps86
        go_wp2_with (go_at_call 126; refine (HG.out _).mono ?_; rintro e w' ⟨rfl, rfl⟩)
        all_goals first | (exfalso; omega) | skip
        have hbk := Blk.new_ w 106 #[.int .i64 0, .int .i64 0, .string ⟨#[]⟩]
        have hB1 := bel_alloc (bel_refl w) (.cells #[.int .i64 0, .int .i64 0, .string ⟨#[]⟩] 106)
        generalize w.alloc (.cells #[.int .i64 0, .int .i64 0, .string ⟨#[]⟩] 106) = w1 at *
        generalize hB0 : w.heap.size = b0 at *
        have HB0 := hid' hB0
        have HB1 := hid' hB1
        have HBK := hid' hbk
        clear hB0 hB1 hbk hz hxs0 hS hB
        go_region_with (first
          | (go_at_call 127; refine (crc_New _).mono ?_; rintro e w5 ⟨g, rfl, hgl, hgN, hB5⟩)
          | (go_at_call 128; refine (HO.out g _ hgN).mono ?_; rintro e w6 ⟨rfl, hB6⟩
             have HK6 := hid' ((HBK.out.drew.below hB5).below hB6)
             have HL6 := hid' (show Below b0 w w6 from HB1.out.trans ((bel_then (bel_then (bel_drew (bel_refl w1)) hB5) hB6).mono (by have := HB1.out.size; have := HB0.out; omega)))
             have c0 : w6.cell? ⟨b0, 0, none⟩ = some (.int .i64 0) := by simpa using HK6.out.cell 0
             have c1 : w6.cell? ⟨b0, 1, none⟩ = some (.int .i64 0) := by simpa using HK6.out.cell 1
             have c2 : w6.cell? ⟨b0, 2, none⟩ = some (.string ⟨#[]⟩) := by simpa using HK6.out.cell 2
             have f0 := HK6.out.frozen 0
             have f1 := HK6.out.frozen 1
             have f2 := HK6.out.frozen 2
             clear hB5 hB6 hgl hgN))
        go_wp2_with (
             go_at_call 129; refine (HOp.out _).mono ?_; rintro e w7 ⟨rfl, hB7⟩
             have HK7 := hid' (HK6.out.below hB7)
             have hltb := HK7.out.lt
             have hne : b0 ≠ w7.heap.size := by omega
             have hne' : w7.heap.size ≠ b0 := by omega
             have HL7 := hid' (show Below b0 w w7 from HL6.out.trans (hB7.mono (by have := HL6.out.size; have := HB0.out; omega)))
             clear c0 c1 c2 f0 f1 f2
             have c0 : w7.cell? ⟨b0, 0, none⟩ = some (.int .i64 0) := by simpa using HK7.out.cell 0
             have c1 : w7.cell? ⟨b0, 1, none⟩ = some (.int .i64 0) := by simpa using HK7.out.cell 1
             have c2 : w7.cell? ⟨b0, 2, none⟩ = some (.string ⟨#[]⟩) := by simpa using HK7.out.cell 2
             have f0 := HK7.out.frozen 0
             have f1 := HK7.out.frozen 1
             have f2 := HK7.out.frozen 2
             clear hB7)
        all_goals
          (try simp only [Exit.inBlock, Exit.then])
          refine bodyPost_ret (v := .tuple #[.agg #[.int .i64 k2, .int .i64 t2, .string x2], .int .i64 E, .int .i64 0]) ?_ rfl ⟨rfl, ?_⟩
          · rw [results_cell_tmp2 rfl]; go_simp
          · rw [HB0.out]; repeat (first | exact HL7.out | refine Below.setCell ?_ (by exact Nat.le_refl _) _ | refine Below.alloc ?_ (by have := HL7.out.size; have := HB0.out; (try simp); omega) _)
      · rw [if_neg hf] at hR
        subst hR
        have n1 : (f != 0) = true := by simp [hf]
        unfold recV
        simp only [Option.isSome_some, zRec] at HO ⊢
        clear hf hkk
        go_enter Tryz.func86, Tryz.ntmps86
        go_wp2_with (go_at_call 126; refine (HG.out _).mono ?_; rintro e w' ⟨rfl, rfl⟩)
        all_goals first | (exfalso; omega) | skip
        have hbk := Blk.new_ w 106 #[.int .i64 0, .int .i64 0, .string ⟨#[]⟩]
        have hB1 := bel_alloc (bel_refl w) (.cells #[.int .i64 0, .int .i64 0, .string ⟨#[]⟩] 106)
        generalize w.alloc (.cells #[.int .i64 0, .int .i64 0, .string ⟨#[]⟩] 106) = w1 at *
        generalize hB0 : w.heap.size = b0 at *
        have HB0 := hid' hB0
        have HB1 := hid' hB1
        have HBK := hid' hbk
        clear hB0 hB1 hbk hz hxs0 hS hB
        go_region_with (first
          | (go_at_call 127; refine (crc_New _).mono ?_; rintro e w5 ⟨g, rfl, hgl, hgN, hB5⟩)
          | (go_at_call 128; refine (HO.out g _ hgN).mono ?_; rintro e w6 ⟨rfl, hB6⟩
             have HK6 := hid' ((HBK.out.drew.below hB5).below hB6)
             have HL6 := hid' (show Below b0 w w6 from HB1.out.trans ((bel_then (bel_then (bel_drew (bel_refl w1)) hB5) hB6).mono (by have := HB1.out.size; have := HB0.out; omega)))
             have c0 : w6.cell? ⟨b0, 0, none⟩ = some (.int .i64 0) := by simpa using HK6.out.cell 0
             have c1 : w6.cell? ⟨b0, 1, none⟩ = some (.int .i64 0) := by simpa using HK6.out.cell 1
             have c2 : w6.cell? ⟨b0, 2, none⟩ = some (.string ⟨#[]⟩) := by simpa using HK6.out.cell 2
             have f0 := HK6.out.frozen 0
             have f1 := HK6.out.frozen 1
             have f2 := HK6.out.frozen 2
             clear hB5 hB6 hgl hgN))
        go_wp2_with (
             go_at_call 129; refine (HOp.out _).mono ?_; rintro e w7 ⟨rfl, hB7⟩
             have HK7 := hid' (HK6.out.below hB7)
             have hltb := HK7.out.lt
             have hne : b0 ≠ w7.heap.size := by omega
             have hne' : w7.heap.size ≠ b0 := by omega
             have HL7 := hid' (show Below b0 w w7 from HL6.out.trans (hB7.mono (by have := HL6.out.size; have := HB0.out; omega)))
             clear c0 c1 c2 f0 f1 f2
             have c0 : w7.cell? ⟨b0, 0, none⟩ = some (.int .i64 0) := by simpa using HK7.out.cell 0
             have c1 : w7.cell? ⟨b0, 1, none⟩ = some (.int .i64 0) := by simpa using HK7.out.cell 1
             have c2 : w7.cell? ⟨b0, 2, none⟩ = some (.string ⟨#[]⟩) := by simpa using HK7.out.cell 2
             have f0 := HK7.out.frozen 0
             have f1 := HK7.out.frozen 1
             have f2 := HK7.out.frozen 2
             clear hB7)
        all_goals
          (try simp only [Exit.inBlock, Exit.then])
          refine bodyPost_ret (v := .tuple #[.agg #[.int .i64 0, .int .i64 0, .string ⟨#[]⟩], .int .i64 0, .int .i64 f]) ?_ rfl ⟨rfl, ?_⟩
          · rw [results_cell_tmp2 rfl]; go_simp
          · rw [HB0.out]; repeat (first | exact HL7.out | refine Below.setCell ?_ (by exact Nat.le_refl _) _ | refine Below.alloc ?_ (by have := HL7.out.size; have := HB0.out; (try simp); omega) _)
  · rw [if_neg h0] at hR
    have hk3 := hk3.resolve_left (by rw [e3]; omega)
    rw [← e3] at hR
    clear e1 e2 e3 hone h0 hlt
    subst hR
    rcases hk3 with h | h
    all_goals
      rw [h] at HG ⊢
      unfold recV
      simp only [zRec]
      go_enter Tryz.func86, Tryz.ntmps86
      go_wp2_with (go_at_call 126; refine (HG.out _).mono ?_; rintro e w' ⟨rfl, rfl⟩)
      (try simp only [Exit.inBlock, Exit.then])
      refine bodyPost_ret (v := .tuple #[.agg #[.int .i64 0, .int .i64 0, .string ⟨#[]⟩], .int .i64 0, .int .i64 _]) ?_ rfl ⟨rfl, ?_⟩
      · rw [results_cell_tmp2 rfl]; go_simp
      · exact (by repeat (first | assumption | apply bel_alloc | apply bel_drewN | apply bel_drew | exact bel_refl _))
end Go.Proofs.YtockkjhciojgbaaGreatDoor
