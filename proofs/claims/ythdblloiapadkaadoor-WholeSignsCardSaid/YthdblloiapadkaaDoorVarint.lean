
/- What the functions of varint and of its reference answer. No condition. -/
import Derived.Test.YthdblloiapadkaaDoorProg
import Derived.Test.YthdblloiapadkaaDoorOwnC
import Derived.Test.YthdblloiapadkaaDoorVarPure
import Derived.WalkSpells
import Derived.WalkLawsBesides
import Derived.Deep.RegionHeld3
import Derived.BigRegion
import Derived.Laws.BitsAllLaws
namespace Go.Proofs.YthdblloiapadkaaDoor
set_option maxRecDepth 100000
set_option linter.unusedSimpArgs false
open Go.RowKit
set_option linter.unusedVariables false

theorem i64_xor_neg (a : Nat) (ha : a < 9223372036854775808) : bits .xor .i64 (a : Int) (-1) = -1 - (a : Int) := by
  show IntKind.i64.wrap ((BitVec.ofInt 64 (a : Int) ^^^ BitVec.ofInt 64 (-1)).toNat : Int) = _
  have h1 : BitVec.ofInt 64 (-1) = BitVec.allOnes 64 := by decide
  rw [h1, BitVec.xor_allOnes, BitVec.toNat_not, ofInt_u64 a (by omega)]
  simp [IntKind.wrap, IntKind.bits, IntKind.signed]
  omega
theorem i64_xor_zero (a : Nat) (ha : a < 9223372036854775808) : bits .xor .i64 (a : Int) 0 = (a : Int) := by
  show IntKind.i64.wrap ((BitVec.ofInt 64 (a : Int) ^^^ BitVec.ofInt 64 0).toNat : Int) = _
  have h1 : BitVec.ofInt 64 0 = 0#64 := by decide
  rw [h1, BitVec.xor_zero, ofInt_u64 a (by omega)]
  simp [IntKind.wrap, IntKind.bits, IntKind.signed]
  omega
theorem u64_xor_max (a : Nat) (ha : a < 18446744073709551616) : bits .xor .u64 (a : Int) 18446744073709551615 = 18446744073709551615 - (a : Int) := by
  show IntKind.u64.wrap ((BitVec.ofInt 64 (a : Int) ^^^ BitVec.ofInt 64 18446744073709551615).toNat : Int) = _
  have h1 : BitVec.ofInt 64 18446744073709551615 = BitVec.allOnes 64 := by decide
  rw [h1, BitVec.xor_allOnes, BitVec.toNat_not, ofInt_u64 a (by omega)]
  simp [IntKind.wrap, IntKind.bits, IntKind.signed]
  omega
theorem u64_xor_zero (a : Nat) (ha : a < 18446744073709551616) : bits .xor .u64 (a : Int) 0 = (a : Int) := by
  have := u64_xor_nat a 0 ha (by omega)
  simpa using this
theorem u64_wrap' (n : Int) : IntKind.u64.wrap n = n % 18446744073709551616 := by simp [IntKind.wrap, IntKind.bits, IntKind.signed]
theorem fold_bits (n : Int) (h : I64 n) : bits .xor .u64 (IntKind.u64.wrap (wrap64 (n * 2))) (IntKind.u64.wrap (n / 9223372036854775808)) = (vfold n : Int) := by
  unfold I64 at h
  rw [u64_wrap', u64_wrap']
  by_cases hn : n < 0
  · rw [show n / 9223372036854775808 % 18446744073709551616 = 18446744073709551615 by omega]
    obtain ⟨a, ha⟩ : ∃ a : Nat, wrap64 (n * 2) % 18446744073709551616 = (a : Int) := ⟨(wrap64 (n * 2) % 18446744073709551616).toNat, by omega⟩
    have ha2 : (a : Int) = 18446744073709551616 + n * 2 := by rw [← ha]; unfold wrap64; omega
    rw [ha, u64_xor_max a (by omega)]
    unfold vfold
    rw [if_pos hn]; omega
  · rw [show n / 9223372036854775808 % 18446744073709551616 = 0 by omega]
    obtain ⟨a, ha⟩ : ∃ a : Nat, wrap64 (n * 2) % 18446744073709551616 = (a : Int) := ⟨(wrap64 (n * 2) % 18446744073709551616).toNat, by omega⟩
    have ha2 : (a : Int) = n * 2 := by rw [← ha]; unfold wrap64; omega
    rw [ha, u64_xor_zero a (by omega)]
    unfold vfold
    rw [if_neg hn]; omega
theorem back_bits (n : Nat) (h : n < 18446744073709551616) : bits .xor .i64 ((n : Int) / 2) (wrap64 (-wrap64 (bits .and .u64 (n : Int) 1))) = vback n := by
  have h1 : bits .and .u64 (n : Int) 1 = ((n % 2 : Nat) : Int) := by
    have := u64_and_nat n 1 h (by omega)
    rw [nat_mask1] at this
    exact this
  rw [h1, show (n : Int) / 2 = ((n / 2 : Nat) : Int) by omega]
  unfold vback
  by_cases ho : n % 2 = 1
  · rw [if_pos ho, ho, show wrap64 (-wrap64 ((1 : Nat) : Int)) = -1 by unfold wrap64; omega, i64_xor_neg _ (by omega)]; omega
  · rw [if_neg ho, show n % 2 = 0 by omega, show wrap64 (-wrap64 ((0 : Nat) : Int)) = 0 by unfold wrap64; omega, i64_xor_zero _ (by omega)]

/-! ### bytes in a row -/
theorem u8_or128 (m : Nat) : bits .or .u8 ((m : Int) % 256) 128 = ((m % 128 + 128 : Nat) : Int) := by
  have := u8_or_nat (m % 256) 128 (by omega) (by omega)
  rw [show ((m : Int) % 256) = ((m % 256 : Nat) : Int) by omega, show (128 : Int) = ((128 : Nat) : Int) from rfl, this]
  congr 1
  rw [Nat.or_comm]
  have h2 : 128 ||| m % 256 = 128 ||| (m % 128) := by
    apply Nat.eq_of_testBit_eq
    intro j
    rw [Nat.testBit_or, Nat.testBit_or, show (256 : Nat) = 2 ^ 8 from rfl, show (128 : Nat) = 2 ^ 7 from rfl, Nat.testBit_mod_two_pow, Nat.testBit_mod_two_pow, Nat.testBit_two_pow]
    by_cases hj : j = 7
    · subst hj; simp
    · by_cases h8 : j < 8
      · have : j < 7 := by omega
        simp [h8, this]
      · have : ¬ j < 7 := by omega
        simp [h8, this]
  rw [h2, nat_join 7 128 (m % 128) (by decide) (by omega), Nat.add_comm]
theorem bcell_ofNat {m : Nat} (h : m < 256) : bcell (UInt8.ofNat m) = .int .u8 (m : Int) := by
  unfold bcell; congr 1; simp; omega

end Go.Proofs.YthdblloiapadkaaDoor
