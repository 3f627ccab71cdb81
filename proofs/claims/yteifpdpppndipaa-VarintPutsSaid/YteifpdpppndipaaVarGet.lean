
/- What varint's and its reference's Get answer. No condition. -/
import Derived.Test.YteifpdpppndipaaVarint
namespace Go.Proofs.Yteifpdpppndipaa
set_option maxRecDepth 100000
set_option linter.unusedSimpArgs false
open Go.RowKit
set_option linter.unusedVariables false

def bl (s : ByteArray) : List UInt8 := s.data.toList
theorem bl_len (s : ByteArray) : (bl s).length = s.size := by unfold bl; rw [Array.length_toList]; rfl
theorem bl_at (s : ByteArray) (k : Nat) (h : k < s.size) : (bl s).drop k = s[k] :: (bl s).drop (k + 1) := by
  unfold bl
  rw [List.drop_eq_getElem_cons (by rw [Array.length_toList]; exact h)]
  rfl
def vg1 (s : ByteArray) : Int := ((vget (bl s)).1 : Int)
def vg2 (s : ByteArray) : Int := ((vget (bl s)).2.1 : Int)
def vg3 (s : ByteArray) : Int := ((vget (bl s)).2.2 : Int)
theorem u64_and127 (c : UInt8) : bits .and .u64 (c.toNat : Int) 127 = ((c.toNat % 128 : Nat) : Int) := by
  have := u64_and_nat c.toNat 127 (by have := c.toNat_lt; omega) (by omega)
  rw [nat_mask7] at this
  exact this

theorem pow128 (k : Nat) : (128 : Nat) ^ k = 2 ^ (7 * k) := by rw [Nat.pow_mul]
theorem or_join (m k d : Nat) (hm : m < 128 ^ k) (hd : d * 128 ^ k < 18446744073709551616) (hs : m + d * 128 ^ k < 18446744073709551616) :
    bits .or .u64 (m : Int) ((d * 128 ^ k : Nat) : Int) = ((m + d * 128 ^ k : Nat) : Int) := by
  rw [u64_or_nat m (d * 128 ^ k) (by omega) hd]
  congr 1
  rw [Nat.or_comm, nat_join (7 * k) (d * 128 ^ k) m (by rw [pow128]; exact Nat.mul_mod_left _ _) (by rw [← pow128]; exact hm), Nat.add_comm]
theorem or_join9 (m : Nat) (c : UInt8) (hm : m < 128 ^ 9) (hc : c.toNat % 128 ≤ 1) :
    bits .or .u64 (m : Int) ((c.toNat : Int) % 128 * 9223372036854775808) = ((m + c.toNat % 128 * 128 ^ 9 : Nat) : Int) := by
  rw [pow9] at hm
  have := or_join m 9 (c.toNat % 128) (by rw [pow9]; exact hm) (by rw [pow9]; omega) (by rw [pow9]; omega)
  rw [← this, pow9]; congr 1 <;> omega
theorem or_joink (m k : Nat) (c : UInt8) (hm : m < 128 ^ k) (hk : k ≤ 8) :
    bits .or .u64 (m : Int) (IntKind.u64.wrap ((c.toNat : Int) % 128 * 2 ^ (7 * k))) = ((m + c.toNat % 128 * 128 ^ k : Nat) : Int) := by
  have h8 : 128 ^ k ≤ 72057594037927936 := by
    have : (128 : Nat) ^ 8 = 72057594037927936 := by decide
    rw [← this]; exact Nat.pow_le_pow_right (by omega) hk
  have h1 : c.toNat % 128 * 128 ^ k ≤ 127 * 128 ^ k := Nat.mul_le_mul_right _ (by omega)
  have := or_join m k (c.toNat % 128) hm (by omega) (by omega)
  rw [← this]
  congr 1
  have e : (c.toNat : Int) % 128 * 2 ^ (7 * k) = ((c.toNat % 128 * 128 ^ k : Nat) : Int) := by
    rw [pow128]; push_cast; rfl
  rw [e, u64_wrap']
  omega
theorem vg_of {s : ByteArray} {a b c : Nat} (h : vget (bl s) = (a, b, c)) : vg1 s = a ∧ vg2 s = b ∧ vg3 s = c := by unfold vg1 vg2 vg3; rw [h]; exact ⟨rfl, rfl, rfl⟩

set_option maxRecDepth 100000 in
theorem varint_Get (s : ByteArray) (w : World) (hs : s.size ≤ maxLen) :
    Calls Try.prog 14 #[.string s] w fun e w' => e = .returned (.tuple #[.int .u64 (vg1 s), .int .i64 (vg2 s), .int .i64 (vg3 s)]) ∧ w = w' := by
  unfold maxLen at hs
  go_enter Try.func14, Try.ntmps14
  go_wp2
  go_loop [5, 10] (fun v5 v10 => ∃ k m : Nat, v10 = .int .i64 k ∧ v5 = .int .u64 m ∧ k ≤ s.size ∧ m < 128 ^ k ∧ k ≤ 10 ∧ Hid (vget (bl s) = vgetFrom k m ((bl s).drop k))) (fun _ v10 => s.size - (intOf v10).toNat)
  case atStart => exact ⟨0, 0, rfl, rfl, Nat.zero_le _, by decide, by omega, rfl⟩
  case round =>
    obtain ⟨k, m, rfl, rfl, hk, hm, hk10, HE⟩ := hrel
    by_cases hlt : k < s.size
    · obtain ⟨c, hc⟩ : ∃ c, s[k] = c := ⟨_, rfl⟩
      have hE2 := HE.out.trans (congrArg (vgetFrom k m) (bl_at s k hlt))
      rw [hc, vgetFrom] at hE2
      have hand := u64_and127 c
      have hcl := c.toNat_lt
      by_cases h9 : 9 < k ∨ (k = 9 ∧ 1 < c.toNat % 128)
      · rw [if_pos h9] at hE2
        obtain ⟨e1, e2, e3⟩ := vg_of hE2
        have H1 := hid' e1
        have H2 := hid' e2
        have H3 := hid' e3
        clear hE2 e1 e2 e3
        by_cases hk9 : 9 < k
        · go_wp2
          go_ret3
          exact ⟨by rw [H1.out, H2.out, H3.out] <;> rfl, rfl⟩
        · have : k = 9 := by omega
          subst this
          have hd : (1 : Int) < (c.toNat : Int) % 128 := by omega
          have hd2 : decide ((1 : Int) < (c.toNat : Int) % 128) = true := decide_eq_true hd
          go_wp2
          go_ret3
          exact ⟨by rw [H1.out, H2.out, H3.out] <;> rfl, rfl⟩
      · rw [if_neg h9] at hE2
        have HE3 := hid' hE2
        clear hE2
        have hk9 : k ≤ 9 := by omega
        have h128 : 128 ^ (k + 1) = 128 ^ k * 128 := Nat.pow_succ 128 k
        have hM : m + c.toNat % 128 * 128 ^ k < 128 ^ (k + 1) := by
          rw [h128]
          have : c.toNat % 128 * 128 ^ k ≤ 127 * 128 ^ k := Nat.mul_le_mul_right _ (by omega)
          omega
        have HM := hid' hM
        have HX := hid' (or_joink m k c hm)
        have HX9 := hid' (or_join9 m c)
        have HM0 := hid' hm
        clear h128 hM hm HE
        generalize hq : m + c.toNat % 128 * 128 ^ k = q at *
        have HQ := hid' hq
        clear hq
        by_cases hlow : c.toNat < 128
        · have HE4 := hid' (HE3.out.trans (if_pos hlow))
          by_cases hz : c.toNat = 0 ∧ 0 < k
          · obtain ⟨e1, e2, e3⟩ := vg_of (HE4.out.trans (if_pos hz))
            have H1 := hid' e1
            have H2 := hid' e2
            have H3 := hid' e3
            clear e1 e2 e3
            obtain ⟨hz1, hz2⟩ := hz
            have hzb : ((c.toNat : Int) == 0) = true := by rw [beq_iff_eq]; omega
            have hzb2 : (c.toNat == 0) = true := by rw [beq_iff_eq]; omega
            go_wp2
            all_goals (go_ret3; exact ⟨by rw [H1.out, H2.out, H3.out] <;> rfl, rfl⟩)
          · obtain ⟨e1, e2, e3⟩ := vg_of (HE4.out.trans (if_neg hz))
            have H1 := hid' e1
            have H2 := hid' e2
            have H3 := hid' e3
            clear e1 e2 e3
            by_cases hc0 : c.toNat = 0
            · have hk0 : k = 0 := by omega
              subst hk0
              have hm0 : m = 0 := by have := HM0.out; simp at this; omega
              subst hm0
              have HQ0 := hid' (show q = 0 by have := HQ.out; rw [hc0] at this; simpa using this.symm)
              have hz2 : bits .or .u64 0 (IntKind.u64.wrap 0) = 0 := by decide
              go_wp2
              go_ret3
              refine ⟨?_, rfl⟩
              rw [H1.out, H2.out, H3.out, HQ0.out]
              rfl
            have hcb : ((c.toNat : Int) == 0) = false := by rw [beq_eq_false_iff_ne]; omega
            have hcb2 : (c.toNat == 0) = false := by rw [beq_eq_false_iff_ne]; omega
            go_wp2
            all_goals
              go_ret3
              refine ⟨?_, rfl⟩
              rw [H1.out, H2.out, H3.out]
              first
                | (rw [HX.out (by omega)]; rfl)
                | (have hk9' : k = 9 := by omega
                   subst hk9'
                   rw [HX9.out HM0.out (by omega), HQ.out]; rfl)
        · have HE4 := hid' (HE3.out.trans (if_neg hlow))
          go_wp2
          all_goals
            go_round
            case rel =>
              refine ⟨k + 1, q, by first | go_num | (have : k = 9 := by omega
                                                     subst this; rfl), ?_, by omega, HM.out, by omega, HE4.out⟩
              first
                | (rw [HX.out (by omega)])
                | (have hk9' : k = 9 := by omega
                   subst hk9'
                   rw [HX9.out HM0.out (by omega), HQ.out])
            case measure => simp [intOf]; omega
    · obtain ⟨e1, e2, e3⟩ := vg_of (HE.out.trans (by rw [List.drop_eq_nil_of_le (by rw [bl_len]; omega)]))
      have H1 := hid' e1
      have H2 := hid' e2
      have H3 := hid' e3
      clear e1 e2 e3
      go_wp2
      go_ret3
      exact ⟨by rw [H1.out, H2.out, H3.out] <;> rfl, rfl⟩
end Go.Proofs.Yteifpdpppndipaa
