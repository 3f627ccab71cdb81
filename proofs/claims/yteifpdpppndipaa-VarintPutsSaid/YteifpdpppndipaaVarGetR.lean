
/- What the reference's Get answers, and folded numbers read. No condition. -/
import Derived.Test.YteifpdpppndipaaVarGet
namespace Go.Proofs.Yteifpdpppndipaa
set_option maxRecDepth 100000
set_option linter.unusedSimpArgs false
open Go.RowKit
set_option linter.unusedVariables false

theorem varint_GetInt (s : ByteArray) (w : World) (hs : s.size ≤ maxLen) :
    Calls Try.prog 13 #[.string s] w fun e w' => e = .returned (.tuple #[.int .i64 (vback (vget (bl s)).1), .int .i64 (vg2 s), .int .i64 (vg3 s)]) ∧ w = w' := by
  have hlt := vgetFrom_lt (bl s) 0 0 (by decide)
  have HL := hid' hlt
  clear hlt
  go_enter Try.func13, Try.ntmps13
  go_wp2_with fail
  refine (varint_Get s _ hs).mono ?_
  rintro e w' ⟨rfl, rfl⟩
  go_wp2_with fail
  refine (varint_Back (vget (bl s)).1 _ HL.out).mono ?_
  rintro e w' ⟨rfl, rfl⟩
  go_wp2
  go_ret3
  exact ⟨rfl, rfl⟩

def oneOf (k : Nat) : Nat := 128 ^ k % 18446744073709551616
theorem one_next (k : Nat) : IntKind.u64.wrap ((oneOf k : Int) * 128) = (oneOf (k + 1) : Int) := by
  rw [u64_wrap']
  unfold oneOf
  rw [Nat.pow_succ]
  omega
theorem one_small {k : Nat} (h : k ≤ 9) : oneOf k = 128 ^ k := by
  unfold oneOf
  have := pow_le9 h
  exact Nat.mod_eq_of_lt (by omega)
theorem ref_sum {m k d : Nat} (hk : k ≤ 9) (hm : m < 128 ^ k) (hd : d ≤ 127) (h9 : k = 9 → d ≤ 1) :
    IntKind.u64.wrap ((m : Int) + IntKind.u64.wrap ((d : Int) * (oneOf k : Int))) = ((m + d * 128 ^ k : Nat) : Int) := by
  have hp := pow_le9 hk
  rw [one_small hk, u64_wrap', u64_wrap']
  have h1 : d * 128 ^ k < 9223372036854775809 := by
    by_cases h : k = 9
    · have := h9 h
      have : d * 128 ^ k ≤ 1 * 128 ^ k := Nat.mul_le_mul_right _ this
      omega
    · have h8 : 128 ^ k ≤ 72057594037927936 := by
        have : (128 : Nat) ^ 8 = 72057594037927936 := by decide
        rw [← this]; exact Nat.pow_le_pow_right (by omega) (by omega)
      have : d * 128 ^ k ≤ 127 * 128 ^ k := Nat.mul_le_mul_right _ hd
      omega
  have e : (d : Int) * ((128 ^ k : Nat) : Int) = ((d * 128 ^ k : Nat) : Int) := by push_cast; rfl
  rw [e]
  generalize d * 128 ^ k = z at *
  omega
theorem ref_sumc {m k : Nat} {c : UInt8} (hk : k ≤ 9) (hm : m < 128 ^ k) (h9 : k = 9 → c.toNat % 128 ≤ 1) :
    IntKind.u64.wrap ((m : Int) + IntKind.u64.wrap ((c.toNat : Int) % 128 * (oneOf k : Int))) = ((m + c.toNat % 128 * 128 ^ k : Nat) : Int) :=
  ref_sum (d := c.toNat % 128) hk hm (by omega) h9

end Go.Proofs.Yteifpdpppndipaa
