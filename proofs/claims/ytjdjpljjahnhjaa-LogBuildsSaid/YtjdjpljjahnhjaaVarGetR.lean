
/- What the reference's Get answers, and folded numbers read. No condition. -/
import Derived.Test.YtjdjpljjahnhjaaVarGet
namespace Go.Proofs.Ytjdjpljjahnhjaa
set_option maxRecDepth 100000
set_option linter.unusedSimpArgs false
open Go.RowKit
set_option linter.unusedVariables false

theorem varint_GetInt (s : ByteArray) (w : World) (hs : s.size ≤ maxLen) :
    Calls Try.prog 20 #[.string s] w fun e w' => e = .returned (.tuple #[.int .i64 (vback (vget (bl s)).1), .int .i64 (vg2 s), .int .i64 (vg3 s)]) ∧ w = w' := by
  have hlt := vgetFrom_lt (bl s) 0 0 (by decide)
  have HL := hid' hlt
  clear hlt
  go_enter Try.func20, Try.ntmps20
  go_wp2_with fail
  refine (varint_Get s _ hs).mono ?_
  rintro e w' ⟨rfl, rfl⟩
  go_wp2_with fail
  refine (varint_Back (vget (bl s)).1 _ HL.out).mono ?_
  rintro e w' ⟨rfl, rfl⟩
  go_wp2
  go_ret3
  exact ⟨rfl, rfl⟩

def oneOf (k : Nat) : Nat := 128 ^ k % 18446744073709551616
theorem one_next (k : Nat) : IntKind.u64.wrap ((oneOf k : Int) * 128) = (oneOf (k + 1) : Int) := by
  rw [u64_wrap']
  unfold oneOf
  rw [Nat.pow_succ]
  omega
theorem one_small {k : Nat} (h : k ≤ 9) : oneOf k = 128 ^ k := by
  unfold oneOf
  have := pow_le9 h
  exact Nat.mod_eq_of_lt (by omega)
theorem ref_sum {m k d : Nat} (hk : k ≤ 9) (hm : m < 128 ^ k) (hd : d ≤ 127) (h9 : k = 9 → d ≤ 1) :
    IntKind.u64.wrap ((m : Int) + IntKind.u64.wrap ((d : Int) * (oneOf k : Int))) = ((m + d * 128 ^ k : Nat) : Int) := by
  have hp := pow_le9 hk
  rw [one_small hk, u64_wrap', u64_wrap']
  have h1 : d * 128 ^ k < 9223372036854775809 := by
    by_cases h : k = 9
    · have := h9 h
      have : d * 128 ^ k ≤ 1 * 128 ^ k := Nat.mul_le_mul_right _ this
      omega
    · have h8 : 128 ^ k ≤ 72057594037927936 := by
        have : (128 : Nat) ^ 8 = 72057594037927936 := by decide
        rw [← this]; exact Nat.pow_le_pow_right (by omega) (by omega)
      have : d * 128 ^ k ≤ 127 * 128 ^ k := Nat.mul_le_mul_right _ hd
      omega
  have e : (d : Int) * ((128 ^ k : Nat) : Int) = ((d * 128 ^ k : Nat) : Int) := by push_cast; rfl
  rw [e]
  generalize d * 128 ^ k = z at *
  omega
theorem ref_sumc {m k : Nat} {c : UInt8} (hk : k ≤ 9) (hm : m < 128 ^ k) (h9 : k = 9 → c.toNat % 128 ≤ 1) :
    IntKind.u64.wrap ((m : Int) + IntKind.u64.wrap ((c.toNat : Int) % 128 * (oneOf k : Int))) = ((m + c.toNat % 128 * 128 ^ k : Nat) : Int) :=
  ref_sum (d := c.toNat % 128) hk hm (by omega) h9

set_option maxRecDepth 100000 in
theorem ref02_Get (s : ByteArray) (w : World) (hs : s.size ≤ maxLen) :
    Calls Try.prog 49 #[.string s] w fun e w' => e = .returned (.tuple #[.int .u64 (vg1 s), .int .i64 (vg2 s), .int .i64 (vg3 s)]) ∧ w = w' := by
  unfold maxLen at hs
  go_enter Try.func49, Try.ntmps49
  go_wp2
  go_loop [5, 6, 7] (fun v5 v6 v7 => ∃ k m : Nat, v7 = .int .i64 k ∧ v5 = .int .u64 m ∧ v6 = .int .u64 (oneOf k) ∧ k ≤ s.size ∧ m < 128 ^ k ∧ k ≤ 10 ∧ Hid (vget (bl s) = vgetFrom k m ((bl s).drop k))) (fun _ _ v7 => s.size - (intOf v7).toNat)
  case atStart => exact ⟨0, 0, rfl, rfl, rfl, Nat.zero_le _, by decide, by omega, rfl⟩
  case round =>
    obtain ⟨k, m, rfl, rfl, rfl, hk, hm, hk10, HE⟩ := hrel
    by_cases hlt : k < s.size
    · obtain ⟨c, hc⟩ : ∃ c, s[k] = c := ⟨_, rfl⟩
      have hE2 := HE.out.trans (congrArg (vgetFrom k m) (bl_at s k hlt))
      rw [hc, vgetFrom] at hE2
      have hcl := c.toNat_lt
      have h1lt : oneOf k < 18446744073709551616 := Nat.mod_lt _ (by omega)
      by_cases h9 : 9 < k ∨ (k = 9 ∧ 1 < c.toNat % 128)
      · rw [if_pos h9] at hE2
        obtain ⟨e1, e2, e3⟩ := vg_of hE2
        have H1 := hid' e1
        have H2 := hid' e2
        have H3 := hid' e3
        clear hE2 e1 e2 e3
        by_cases hk9 : 9 < k
        · have hkb : ((k : Int) == 9) = false := by rw [beq_eq_false_iff_ne]; omega
          have hkb2 : (k == 9) = false := by rw [beq_eq_false_iff_ne]; omega
          go_wp2
          go_ret3
          exact ⟨by rw [H1.out, H2.out, H3.out] <;> rfl, rfl⟩
        · have : k = 9 := by omega
          subst this
          have hd : (1 : Int) < (c.toNat : Int) % 128 := by omega
          have hd2 : decide ((1 : Int) < (c.toNat : Int) % 128) = true := decide_eq_true hd
          go_wp2
          go_ret3
          exact ⟨by rw [H1.out, H2.out, H3.out] <;> rfl, rfl⟩
      · rw [if_neg h9] at hE2
        have HE3 := hid' hE2
        clear hE2
        have hk9 : k ≤ 9 := by omega
        have h128 : 128 ^ (k + 1) = 128 ^ k * 128 := Nat.pow_succ 128 k
        have hM : m + c.toNat % 128 * 128 ^ k < 128 ^ (k + 1) := by
          rw [h128]
          have : c.toNat % 128 * 128 ^ k ≤ 127 * 128 ^ k := Nat.mul_le_mul_right _ (by omega)
          omega
        have HM := hid' hM
        have hsum := ref_sumc (c := c) hk9 hm (by omega)
        have hone := one_next k
        clear h128 hM hm HE
        generalize hq : m + c.toNat % 128 * 128 ^ k = q at *
        clear hq
        have hd9 : k = 9 → ¬ (1 < c.toNat % 128) := by omega
        by_cases hlow : c.toNat < 128
        · have HE4 := hid' (HE3.out.trans (if_pos hlow))
          clear HE3
          by_cases hz : c.toNat = 0 ∧ 0 < k
          · obtain ⟨e1, e2, e3⟩ := vg_of (HE4.out.trans (if_pos hz))
            have H1 := hid' e1
            have H2 := hid' e2
            have H3 := hid' e3
            clear e1 e2 e3
            obtain ⟨hz1, hz2⟩ := hz
            have hz3 : decide (0 < k) = true := decide_eq_true hz2
            by_cases hk9' : k = 9
            · subst hk9'
              go_wp2
              go_ret3
              exact ⟨by rw [H1.out, H2.out, H3.out] <;> rfl, rfl⟩
            · have hkb : ((k : Int) == 9) = false := by rw [beq_eq_false_iff_ne]; omega
              have hkb2 : (k == 9) = false := by rw [beq_eq_false_iff_ne]; omega
              go_wp2
              go_ret3
              exact ⟨by rw [H1.out, H2.out, H3.out] <;> rfl, rfl⟩
          · obtain ⟨e1, e2, e3⟩ := vg_of (HE4.out.trans (if_neg hz))
            have H1 := hid' e1
            have H2 := hid' e2
            have H3 := hid' e3
            clear e1 e2 e3
            by_cases hc0 : c.toNat = 0
            · have hk0 : k = 0 := by omega
              subst hk0
              have hcb : ((c.toNat : Int) == 0) = true := by rw [beq_iff_eq]; omega
              have hcb2 : (c.toNat == 0) = true := by rw [beq_iff_eq]; omega
              clear hc0
              go_wp2
              go_ret3
              exact ⟨by rw [H1.out, H2.out, H3.out] <;> rfl, rfl⟩
            have hcb : ((c.toNat : Int) == 0) = false := by rw [beq_eq_false_iff_ne]; omega
            have hcb2 : (c.toNat == 0) = false := by rw [beq_eq_false_iff_ne]; omega
            by_cases hk9' : k = 9
            · subst hk9'
              go_wp2
              go_ret3
              exact ⟨by rw [H1.out, H2.out, H3.out] <;> rfl, rfl⟩
            · have hkb : ((k : Int) == 9) = false := by rw [beq_eq_false_iff_ne]; omega
              have hkb2 : (k == 9) = false := by rw [beq_eq_false_iff_ne]; omega
              go_wp2
              go_ret3
              exact ⟨by rw [H1.out, H2.out, H3.out] <;> rfl, rfl⟩
        · have HE4 := hid' (HE3.out.trans (if_neg hlow))
          clear HE3
          by_cases hk9' : k = 9
          · subst hk9'
            go_wp2
            go_round
            case rel => exact ⟨10, q, rfl, rfl, rfl, by omega, HM.out, by omega, HE4.out⟩
            case measure => simp [intOf]; omega
          · have hkb : ((k : Int) == 9) = false := by rw [beq_eq_false_iff_ne]; omega
            have hkb2 : (k == 9) = false := by rw [beq_eq_false_iff_ne]; omega
            go_wp2
            go_round
            case rel => exact ⟨k + 1, q, by go_num, rfl, rfl, by omega, HM.out, by omega, HE4.out⟩
            case measure => simp [intOf]; omega
    · obtain ⟨e1, e2, e3⟩ := vg_of (HE.out.trans (by rw [List.drop_eq_nil_of_le (by rw [bl_len]; omega)]))
      have H1 := hid' e1
      have H2 := hid' e2
      have H3 := hid' e3
      clear e1 e2 e3
      go_wp2
      go_ret3
      exact ⟨by rw [H1.out, H2.out, H3.out] <;> rfl, rfl⟩
end Go.Proofs.Ytjdjpljjahnhjaa
