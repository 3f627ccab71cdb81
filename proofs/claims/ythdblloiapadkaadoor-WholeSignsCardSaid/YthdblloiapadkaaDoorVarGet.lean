
/- What varint's and its reference's Get answer. No condition. -/
import Derived.Test.YthdblloiapadkaaDoorVarint
namespace Go.Proofs.YthdblloiapadkaaDoor
set_option maxRecDepth 100000
set_option linter.unusedSimpArgs false
open Go.RowKit
set_option linter.unusedVariables false

def bl (s : ByteArray) : List UInt8 := s.data.toList
theorem bl_len (s : ByteArray) : (bl s).length = s.size := by unfold bl; rw [Array.length_toList]; rfl
theorem bl_at (s : ByteArray) (k : Nat) (h : k < s.size) : (bl s).drop k = s[k] :: (bl s).drop (k + 1) := by
  unfold bl
  rw [List.drop_eq_getElem_cons (by rw [Array.length_toList]; exact h)]
  rfl
def vg1 (s : ByteArray) : Int := ((vget (bl s)).1 : Int)
def vg2 (s : ByteArray) : Int := ((vget (bl s)).2.1 : Int)
def vg3 (s : ByteArray) : Int := ((vget (bl s)).2.2 : Int)
theorem u64_and127 (c : UInt8) : bits .and .u64 (c.toNat : Int) 127 = ((c.toNat % 128 : Nat) : Int) := by
  have := u64_and_nat c.toNat 127 (by have := c.toNat_lt; omega) (by omega)
  rw [nat_mask7] at this
  exact this

theorem pow128 (k : Nat) : (128 : Nat) ^ k = 2 ^ (7 * k) := by rw [Nat.pow_mul]
theorem or_join (m k d : Nat) (hm : m < 128 ^ k) (hd : d * 128 ^ k < 18446744073709551616) (hs : m + d * 128 ^ k < 18446744073709551616) :
    bits .or .u64 (m : Int) ((d * 128 ^ k : Nat) : Int) = ((m + d * 128 ^ k : Nat) : Int) := by
  rw [u64_or_nat m (d * 128 ^ k) (by omega) hd]
  congr 1
  rw [Nat.or_comm, nat_join (7 * k) (d * 128 ^ k) m (by rw [pow128]; exact Nat.mul_mod_left _ _) (by rw [← pow128]; exact hm), Nat.add_comm]
theorem or_join9 (m : Nat) (c : UInt8) (hm : m < 128 ^ 9) (hc : c.toNat % 128 ≤ 1) :
    bits .or .u64 (m : Int) ((c.toNat : Int) % 128 * 9223372036854775808) = ((m + c.toNat % 128 * 128 ^ 9 : Nat) : Int) := by
  rw [pow9] at hm
  have := or_join m 9 (c.toNat % 128) (by rw [pow9]; exact hm) (by rw [pow9]; omega) (by rw [pow9]; omega)
  rw [← this, pow9]; congr 1 <;> omega
theorem or_joink (m k : Nat) (c : UInt8) (hm : m < 128 ^ k) (hk : k ≤ 8) :
    bits .or .u64 (m : Int) (IntKind.u64.wrap ((c.toNat : Int) % 128 * 2 ^ (7 * k))) = ((m + c.toNat % 128 * 128 ^ k : Nat) : Int) := by
  have h8 : 128 ^ k ≤ 72057594037927936 := by
    have : (128 : Nat) ^ 8 = 72057594037927936 := by decide
    rw [← this]; exact Nat.pow_le_pow_right (by omega) hk
  have h1 : c.toNat % 128 * 128 ^ k ≤ 127 * 128 ^ k := Nat.mul_le_mul_right _ (by omega)
  have := or_join m k (c.toNat % 128) hm (by omega) (by omega)
  rw [← this]
  congr 1
  have e : (c.toNat : Int) % 128 * 2 ^ (7 * k) = ((c.toNat % 128 * 128 ^ k : Nat) : Int) := by
    rw [pow128]; push_cast; rfl
  rw [e, u64_wrap']
  omega
theorem vg_of {s : ByteArray} {a b c : Nat} (h : vget (bl s) = (a, b, c)) : vg1 s = a ∧ vg2 s = b ∧ vg3 s = c := by unfold vg1 vg2 vg3; rw [h]; exact ⟨rfl, rfl, rfl⟩

end Go.Proofs.YthdblloiapadkaaDoor
