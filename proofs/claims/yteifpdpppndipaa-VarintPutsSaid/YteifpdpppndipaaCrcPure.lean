
/- Sums of bytes xas a plain law: bit by bit, byte by byte, and xas a division; what differs within 32 bits has another sum. No program. -/
import Derived.Test.YteifpdpppndipaaLib
namespace Go.Proofs.Yteifpdpppndipaa
set_option maxRecDepth 100000
set_option linter.unusedSimpArgs false
set_option linter.unusedVariables false

def CP : Nat := 3988292384
def cstep (x : Nat) : Nat := (x / 2) ^^^ (if x % 2 = 1 then CP else 0)
theorem cstep_bit (x j : Nat) : (cstep x).testBit j = ((x.testBit (j + 1)) ^^ (x.testBit 0 && CP.testBit j)) := by
  unfold cstep
  rw [Nat.testBit_xor, Nat.testBit_div_two]
  congr 1
  rw [Nat.testBit_zero]
  by_cases h : x % 2 = 1
  · simp [h]
  · simp [h]
theorem cstep_xor (a b : Nat) : cstep (a ^^^ b) = cstep a ^^^ cstep b := by
  apply Nat.eq_of_testBit_eq
  intro j
  rw [Nat.testBit_xor, cstep_bit, cstep_bit, cstep_bit, Nat.testBit_xor, Nat.testBit_xor]
  cases a.testBit (j + 1) <;> cases b.testBit (j + 1) <;> cases a.testBit 0 <;> cases b.testBit 0 <;> cases CP.testBit j <;> rfl
theorem cstep_two (x : Nat) : cstep (2 * x) = x := by unfold cstep; rw [if_neg (by omega)]; simp
theorem CP_bit {j : Nat} (h : 32 ≤ j) : CP.testBit j = false := Nat.testBit_lt_two_pow (Nat.lt_of_lt_of_le (by decide : CP < 2 ^ 32) (Nat.pow_le_pow_right (by omega) h))
theorem cstep_lt {x : Nat} (h : x < 2 ^ 32) : cstep x < 2 ^ 32 := by
  unfold cstep
  apply Nat.xor_lt_two_pow
  · omega
  · split <;> decide
theorem cstep_zero : cstep 0 = 0 := by decide
theorem cstep_inj {x : Nat} (hx : x < 2 ^ 32) (h : cstep x = 0) : x = 0 := by
  unfold cstep at h
  by_cases ho : x % 2 = 1
  · rw [if_pos ho] at h
    have h2 : x / 2 = CP := by
      have h3 : (x / 2 ^^^ CP) ^^^ CP = 0 ^^^ CP := by rw [h]
      rwa [Nat.xor_assoc, Nat.xor_self, Nat.xor_zero, Nat.zero_xor] at h3
    have : CP = 3988292384 := rfl
    omega
  · rw [if_neg ho, Nat.xor_zero] at h
    omega

def csteps : Nat → Nat → Nat
  | 0, x => x
  | k + 1, x => csteps k (cstep x)
theorem csteps_xor (k : Nat) : ∀ a b, csteps k (a ^^^ b) = csteps k a ^^^ csteps k b := by
  induction k with
  | zero => intro a b; rfl
  | succ k ih => intro a b; rw [csteps, cstep_xor, ih]; rfl
theorem csteps_shift (k : Nat) : ∀ x, csteps k (2 ^ k * x) = x := by
  induction k with
  | zero => intro x; simp [csteps]
  | succ k ih =>
    intro x
    rw [csteps, show 2 ^ (k + 1) * x = 2 * (2 ^ k * x) by rw [Nat.pow_succ, Nat.mul_comm (2 ^ k) 2, Nat.mul_assoc], cstep_two, ih]
theorem csteps_lt (k : Nat) : ∀ {x : Nat}, x < 2 ^ 32 → csteps k x < 2 ^ 32 := by
  induction k with
  | zero => intro x h; exact h
  | succ k ih => intro x h; exact ih (cstep_lt h)
theorem csteps_inj (k : Nat) : ∀ {x : Nat}, x < 2 ^ 32 → csteps k x = 0 → x = 0 := by
  induction k with
  | zero => intro x _ h; exact h
  | succ k ih => intro x hx h; exact cstep_inj hx (ih (cstep_lt hx) h)
theorem csteps_add (j k : Nat) : ∀ x, csteps (j + k) x = csteps k (csteps j x) := by
  induction j with
  | zero => intro x; simp [csteps]
  | succ j ih => intro x; rw [show j + 1 + k = (j + k) + 1 by omega, csteps, ih]; rfl

/-! ### bits, one behind the other -/
def feed (x : Nat) : List Bool → Nat
  | [] => x
  | b :: bs => feed (cstep (x ^^^ b.toNat)) bs
def bval : List Bool → Nat
  | [] => 0
  | b :: bs => b.toNat + 2 * bval bs
theorem bval_lt (bs : List Bool) : bval bs < 2 ^ bs.length := by
  induction bs with
  | nil => simp [bval]
  | cons b bs ih =>
    have : b.toNat ≤ 1 := by cases b <;> simp
    simp only [bval, List.length_cons, Nat.pow_succ]; omega
theorem bval_xor (b : Bool) (v : Nat) : b.toNat + 2 * v = b.toNat ^^^ (2 * v) := by
  apply Nat.eq_of_testBit_eq
  intro j
  rw [Nat.testBit_xor]
  cases j with
  | zero => cases b <;> simp [Nat.testBit_zero] <;> omega
  | succ j =>
    rw [Nat.testBit_succ, Nat.testBit_succ, Nat.testBit_succ, show 2 * v / 2 = v by omega]
    cases b
    · simp
    · rw [show (true.toNat + 2 * v) / 2 = v by simp; omega]; simp
theorem feed_eq (bs : List Bool) : ∀ x, feed x bs = csteps bs.length (x ^^^ bval bs) := by
  induction bs with
  | nil => intro x; simp [feed, bval, csteps]
  | cons b bs ih =>
    intro x
    rw [feed, ih, List.length_cons, csteps, bval, bval_xor, ← Nat.xor_assoc, cstep_xor (x ^^^ b.toNat), cstep_two]
theorem feed_append (xas bs : List Bool) : ∀ x, feed x (xas ++ bs) = feed (feed x xas) bs := by
  induction xas with
  | nil => intro x; rfl
  | cons a xas ih => intro x; exact ih _
theorem feed_lt (bs : List Bool) : ∀ {x : Nat}, x < 2 ^ 32 → feed x bs < 2 ^ 32 := by
  induction bs with
  | nil => intro x h; exact h
  | cons b bs ih =>
    intro x h
    refine ih (cstep_lt (Nat.xor_lt_two_pow h ?_))
    cases b <;> decide

/-! ### bytes -/
def byteBits (c : UInt8) : List Bool := (List.range 8).map c.toNat.testBit
theorem byteBits_len (c : UInt8) : (byteBits c).length = 8 := by simp [byteBits]
theorem bval_bits (k : Nat) : ∀ n, n < 2 ^ k → bval ((List.range k).map n.testBit) = n := by
  induction k with
  | zero => intro n h; simp [bval]; omega
  | succ k ih =>
    intro n h
    rw [List.range_succ_eq_map, List.map_cons, bval, List.map_map]
    have h2 : (n.testBit ∘ Nat.succ) = (n / 2).testBit := by funext j; simp [Nat.testBit_succ]
    rw [h2, ih (n / 2) (by rw [Nat.pow_succ] at h; omega), Nat.testBit_zero]
    by_cases ho : n % 2 = 1
    · simp [ho]; omega
    · simp [ho]; omega
theorem bval_byte (c : UInt8) : bval (byteBits c) = c.toNat := bval_bits 8 _ c.toNat_lt
def bitsOf (s : List UInt8) : List Bool := s.flatMap byteBits
theorem bitsOf_len (s : List UInt8) : (bitsOf s).length = 8 * s.length := by
  induction s with
  | nil => rfl
  | cons c s ih => rw [bitsOf, List.flatMap_cons, List.length_append, byteBits_len]; rw [bitsOf] at ih; rw [ih, List.length_cons]; omega
theorem bitsOf_append (s t : List UInt8) : bitsOf (s ++ t) = bitsOf s ++ bitsOf t := by simp [bitsOf]

def CM : Nat := 4294967295
def creg (s : List UInt8) : Nat := feed CM (bitsOf s)
theorem creg_lt (s : List UInt8) : creg s < 2 ^ 32 := feed_lt _ (by decide)
def csum (s : List UInt8) : Nat := CM ^^^ creg s
def ctab (i : Nat) : Nat := csteps 8 i
theorem split256 (y : Nat) : y = (y % 256) ^^^ (2 ^ 8 * (y / 256)) := by
  apply Nat.eq_of_testBit_eq
  intro j
  rw [Nat.testBit_xor, show (256 : Nat) = 2 ^ 8 from rfl, Nat.testBit_mod_two_pow, Nat.testBit_two_pow_mul, Nat.testBit_div_two_pow]
  by_cases h : j < 8
  · simp [h, show ¬ 8 ≤ j by omega]
  · simp [h, show 8 ≤ j by omega]
theorem tab_step (y : Nat) : csteps 8 y = ctab (y % 256) ^^^ (y / 256) := by
  conv => lhs; rw [split256 y]
  rw [csteps_xor, csteps_shift]; rfl
theorem xor_div256 (x : Nat) (c : UInt8) : (x ^^^ c.toNat) / 256 = x / 256 := by
  apply Nat.eq_of_testBit_eq
  intro j
  rw [show (256 : Nat) = 2 ^ 8 from rfl, Nat.testBit_div_two_pow, Nat.testBit_div_two_pow, Nat.testBit_xor]
  have : c.toNat.testBit (j + 8) = false := Nat.testBit_lt_two_pow (Nat.lt_of_lt_of_le c.toNat_lt (Nat.pow_le_pow_right (by omega) (by omega)))
  simp [this]
theorem creg_snoc (s : List UInt8) (c : UInt8) : creg (s ++ [c]) = ctab ((creg s ^^^ c.toNat) % 256) ^^^ (creg s / 256) := by
  unfold creg
  rw [bitsOf_append, feed_append, show bitsOf [c] = byteBits c by simp [bitsOf], feed_eq, byteBits_len, bval_byte, tab_step, xor_div256]

/-! ### what differs within 32 bits -/
def xorBits : List Bool → List Bool → List Bool
  | a :: xas, b :: bs => (a ^^ b) :: xorBits xas bs
  | _, _ => []
theorem feed_xor (xas : List Bool) : ∀ bs x y, xas.length = bs.length → feed x xas ^^^ feed y bs = feed (x ^^^ y) (xorBits xas bs) := by
  induction xas with
  | nil => intro bs x y h; cases bs with
    | nil => rfl
    | cons b bs => simp at h
  | cons a xas ih =>
    intro bs x y h
    cases bs with
    | nil => simp at h
    | cons b bs =>
      rw [feed, feed, ih bs _ _ (by simpa using h), xorBits, feed, ← cstep_xor]
      congr 2
      have : (a ^^ b).toNat = a.toNat ^^^ b.toNat := by cases a <;> cases b <;> rfl
      rw [this]
      ac_rfl
theorem feed_zeros (k : Nat) : feed 0 (List.replicate k false) = 0 := by
  induction k with
  | zero => rfl
  | succ k ih => rw [List.replicate_succ, feed]; simpa [cstep_zero] using ih
/-- A difference: zeros, then no more than 32 bits, then zeros: if the registers are the same, there is none. -/
theorem burst (p q : Nat) (d : List Bool) (hd : d.length ≤ 32) (h : feed 0 (List.replicate p false ++ d ++ List.replicate q false) = 0) : bval d = 0 := by
  rw [feed_append, feed_append, feed_zeros, feed_eq, feed_eq, List.length_replicate] at h
  have hz : ∀ q, bval (List.replicate q false) = 0 := by
    intro q
    induction q with
    | zero => rfl
    | succ q ih => rw [List.replicate_succ, bval, ih]; rfl
  have hdl : bval d < 2 ^ 32 := Nat.lt_of_lt_of_le (bval_lt d) (Nat.pow_le_pow_right (by omega) hd)
  rw [hz, Nat.xor_zero, Nat.zero_xor, ← csteps_add] at h
  exact csteps_inj _ hdl h
end Go.Proofs.Yteifpdpppndipaa
