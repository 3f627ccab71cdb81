
/- What the functions of varint and of its reference answer. No condition. -/
import Derived.Test.YteifpdpppndipaaProg
import Derived.Test.YteifpdpppndipaaOwnC
import Derived.Test.YteifpdpppndipaaVarPure
import Derived.WalkSpells
import Derived.WalkLawsBesides
import Derived.Deep.RegionHeld3
import Derived.BigRegion
import Derived.Laws.BitsAllLaws
namespace Go.Proofs.Yteifpdpppndipaa
set_option maxRecDepth 100000
set_option linter.unusedSimpArgs false
open Go.RowKit
set_option linter.unusedVariables false

theorem i64_xor_neg (a : Nat) (ha : a < 9223372036854775808) : bits .xor .i64 (a : Int) (-1) = -1 - (a : Int) := by
  show IntKind.i64.wrap ((BitVec.ofInt 64 (a : Int) ^^^ BitVec.ofInt 64 (-1)).toNat : Int) = _
  have h1 : BitVec.ofInt 64 (-1) = BitVec.allOnes 64 := by decide
  rw [h1, BitVec.xor_allOnes, BitVec.toNat_not, ofInt_u64 a (by omega)]
  simp [IntKind.wrap, IntKind.bits, IntKind.signed]
  omega
theorem i64_xor_zero (a : Nat) (ha : a < 9223372036854775808) : bits .xor .i64 (a : Int) 0 = (a : Int) := by
  show IntKind.i64.wrap ((BitVec.ofInt 64 (a : Int) ^^^ BitVec.ofInt 64 0).toNat : Int) = _
  have h1 : BitVec.ofInt 64 0 = 0#64 := by decide
  rw [h1, BitVec.xor_zero, ofInt_u64 a (by omega)]
  simp [IntKind.wrap, IntKind.bits, IntKind.signed]
  omega
theorem u64_xor_max (a : Nat) (ha : a < 18446744073709551616) : bits .xor .u64 (a : Int) 18446744073709551615 = 18446744073709551615 - (a : Int) := by
  show IntKind.u64.wrap ((BitVec.ofInt 64 (a : Int) ^^^ BitVec.ofInt 64 18446744073709551615).toNat : Int) = _
  have h1 : BitVec.ofInt 64 18446744073709551615 = BitVec.allOnes 64 := by decide
  rw [h1, BitVec.xor_allOnes, BitVec.toNat_not, ofInt_u64 a (by omega)]
  simp [IntKind.wrap, IntKind.bits, IntKind.signed]
  omega
theorem u64_xor_zero (a : Nat) (ha : a < 18446744073709551616) : bits .xor .u64 (a : Int) 0 = (a : Int) := by
  have := u64_xor_nat a 0 ha (by omega)
  simpa using this
theorem u64_wrap' (n : Int) : IntKind.u64.wrap n = n % 18446744073709551616 := by simp [IntKind.wrap, IntKind.bits, IntKind.signed]
theorem fold_bits (n : Int) (h : I64 n) : bits .xor .u64 (IntKind.u64.wrap (wrap64 (n * 2))) (IntKind.u64.wrap (n / 9223372036854775808)) = (vfold n : Int) := by
  unfold I64 at h
  rw [u64_wrap', u64_wrap']
  by_cases hn : n < 0
  · rw [show n / 9223372036854775808 % 18446744073709551616 = 18446744073709551615 by omega]
    obtain ⟨a, ha⟩ : ∃ a : Nat, wrap64 (n * 2) % 18446744073709551616 = (a : Int) := ⟨(wrap64 (n * 2) % 18446744073709551616).toNat, by omega⟩
    have ha2 : (a : Int) = 18446744073709551616 + n * 2 := by rw [← ha]; unfold wrap64; omega
    rw [ha, u64_xor_max a (by omega)]
    unfold vfold
    rw [if_pos hn]; omega
  · rw [show n / 9223372036854775808 % 18446744073709551616 = 0 by omega]
    obtain ⟨a, ha⟩ : ∃ a : Nat, wrap64 (n * 2) % 18446744073709551616 = (a : Int) := ⟨(wrap64 (n * 2) % 18446744073709551616).toNat, by omega⟩
    have ha2 : (a : Int) = n * 2 := by rw [← ha]; unfold wrap64; omega
    rw [ha, u64_xor_zero a (by omega)]
    unfold vfold
    rw [if_neg hn]; omega
theorem back_bits (n : Nat) (h : n < 18446744073709551616) : bits .xor .i64 ((n : Int) / 2) (wrap64 (-wrap64 (bits .and .u64 (n : Int) 1))) = vback n := by
  have h1 : bits .and .u64 (n : Int) 1 = ((n % 2 : Nat) : Int) := by
    have := u64_and_nat n 1 h (by omega)
    rw [nat_mask1] at this
    exact this
  rw [h1, show (n : Int) / 2 = ((n / 2 : Nat) : Int) by omega]
  unfold vback
  by_cases ho : n % 2 = 1
  · rw [if_pos ho, ho, show wrap64 (-wrap64 ((1 : Nat) : Int)) = -1 by unfold wrap64; omega, i64_xor_neg _ (by omega)]; omega
  · rw [if_neg ho, show n % 2 = 0 by omega, show wrap64 (-wrap64 ((0 : Nat) : Int)) = 0 by unfold wrap64; omega, i64_xor_zero _ (by omega)]

theorem varint_Fold (n : Int) (w : World) (hn : I64 n) :
    Calls Try.prog 10 #[.int .i64 n] w fun e w' => e = .returned (.int .u64 (vfold n)) ∧ w = w' := by
  have h1 := hn.1
  have h2 := hn.2
  go_enter Try.func10, Try.ntmps10
  go_wp2
  go_ret
  exact ⟨ret_int (fold_bits n hn), rfl⟩
theorem varint_Back (n : Nat) (w : World) (hn : n < 18446744073709551616) :
    Calls Try.prog 11 #[.int .u64 n] w fun e w' => e = .returned (.int .i64 (vback n)) ∧ w = w' := by
  go_enter Try.func11, Try.ntmps11
  go_wp2
  go_ret
  exact ⟨ret_int (back_bits n hn), rfl⟩
theorem ref02_Fold (n : Int) (w : World) (hn : I64 n) :
    Calls Try.prog 9 #[.int .i64 n] w fun e w' => e = .returned (.int .u64 (vfold n)) ∧ w = w' := by
  have h1 := hn.1
  have h2 := hn.2
  by_cases hneg : n < 0
  · go_enter Try.func9, Try.ntmps9
    go_wp2
    go_ret
    exact ⟨ret_int (by unfold vfold; split <;> omega), rfl⟩
  · go_enter Try.func9, Try.ntmps9
    go_wp2
    go_ret
    exact ⟨ret_int (by unfold vfold; split <;> omega), rfl⟩
theorem ref02_Back (n : Nat) (w : World) (hn : n < 18446744073709551616) :
    Calls Try.prog 12 #[.int .u64 n] w fun e w' => e = .returned (.int .i64 (vback n)) ∧ w = w' := by
  go_enter Try.func12, Try.ntmps12
  go_wp2
  · rename_i h
    go_ret
    exact ⟨ret_int (by rw [beq_iff_eq] at h; unfold vback; split <;> omega), rfl⟩
  · rename_i h
    go_ret
    exact ⟨ret_int (by rw [beq_eq_false_iff_ne] at h; unfold vback; split <;> omega), rfl⟩
/-! ### bytes in a row -/
theorem u8_or128 (m : Nat) : bits .or .u8 ((m : Int) % 256) 128 = ((m % 128 + 128 : Nat) : Int) := by
  have := u8_or_nat (m % 256) 128 (by omega) (by omega)
  rw [show ((m : Int) % 256) = ((m % 256 : Nat) : Int) by omega, show (128 : Int) = ((128 : Nat) : Int) from rfl, this]
  congr 1
  rw [Nat.or_comm]
  have h2 : 128 ||| m % 256 = 128 ||| (m % 128) := by
    apply Nat.eq_of_testBit_eq
    intro j
    rw [Nat.testBit_or, Nat.testBit_or, show (256 : Nat) = 2 ^ 8 from rfl, show (128 : Nat) = 2 ^ 7 from rfl, Nat.testBit_mod_two_pow, Nat.testBit_mod_two_pow, Nat.testBit_two_pow]
    by_cases hj : j = 7
    · subst hj; simp
    · by_cases h8 : j < 8
      · have : j < 7 := by omega
        simp [h8, this]
      · have : ¬ j < 7 := by omega
        simp [h8, this]
  rw [h2, nat_join 7 128 (m % 128) (by decide) (by omega), Nat.add_comm]
theorem bcell_ofNat {m : Nat} (h : m < 256) : bcell (UInt8.ofNat m) = .int .u8 (m : Int) := by
  unfold bcell; congr 1; simp; omega

set_option maxRecDepth 100000 in
theorem varint_Put (base : Nat) (v : Value) (xs : List UInt8) (n : Nat) (w : World) (ho : OwnC w base v xs.length (xs.map bcell)) (hb : base ≤ w.heap.size) (hn : n < 18446744073709551616) (hx : xs.length ≤ 1000000) :
    Calls Try.prog 7 #[v, .int .u64 n] w fun e w' => ∃ v', e = .returned v' ∧ OwnC w' base v' (xs ++ vput n).length ((xs ++ vput n).map bcell) ∧
      Mod (fun k => v.ownBlock = some k) w w' ∧ (v'.ownBlock = v.ownBlock ∨ ∃ k, v'.ownBlock = some k ∧ w.heap.size ≤ k) := by
  have HO := hid' ho
  have hl : (xs ++ vput n).length ≤ xs.length + 10 := by
    have := vput_len 9 n (by have : (128 : Nat) ^ (9 + 1) = 1180591620717411303424 := by decide
                             omega)
    simp; omega
  have HL := hid' hl
  clear ho hl
  go_enter Try.func7, Try.ntmps7
  go_wp2
  go_loopw [0, 1] (fun v0 v1 wr => ∃ (ys : List UInt8) (m : Nat), v1 = .int .u64 m ∧ m < 18446744073709551616 ∧ Hid (ys ++ vput m = xs ++ vput n) ∧ OwnC wr base v0 ys.length (ys.map bcell) ∧
    Mod (fun k => v.ownBlock = some k) w wr ∧ (v0.ownBlock = v.ownBlock ∨ ∃ k, v0.ownBlock = some k ∧ w.heap.size ≤ k)) (fun _ v1 _ => (intOf v1).toNat)
  case atStart => exact ⟨xs, n, rfl, hn, rfl, HO.out, Mod.refl _ _, .inl rfl⟩
  case round =>
    obtain ⟨ys, m, rfl, hm, HE, hown, hmod, hblk⟩ := hrel
    have HO1 := hid' hown
    have HM := hid' hmod
    have HB := hid' hblk
    have hsz : base ≤ wr.heap.size := Nat.le_trans hb hmod.size
    have hys : ys.length + 1 ≤ 1000020 := by
      have h1 := congrArg List.length HE.out
      have h2 := HL.out
      have h3 := vput_pos m
      rw [List.length_append] at h1
      omega
    clear hown hmod hblk
    by_cases hlt : m < 128
    · have HV := hid' (vput_lt hlt)
      have HC := hid' (bcell_ofNat (m := m) (by omega))
      have hmod256 : (m : Int) % 256 = (m : Int) := by omega
      go_wp2_with (at_builtin; go_loud (refine ap_c base rfl (.tmp 15) (.tmp 18) 24 5 (.int .u8 0) 1 rfl (by kernel_rfl) (by kernel_rfl) rfl (by decide) u0 ys.length (ys.map bcell) (.int .u8 m) rfl rfl rfl HO1.out hsz (by omega) ?_); intro v1 w1 hown1 hg1 hat1)
      have HO2 := hid' hown1
      have hm2 := HM.out.then_ (Mod.of_grown hg1) (fun i hi e => by
        rcases HB.out with h | ⟨k, h, hk⟩
        · rw [← h]; exact e
        · rw [h] at e; cases e; omega)
      have hb2 : v1.ownBlock = v.ownBlock ∨ ∃ k, v1.ownBlock = some k ∧ w.heap.size ≤ k := by
        rcases hat1 with h | ⟨k, h, hk⟩
        · rw [h]; exact HB.out
        · exact .inr ⟨k, h, by have := HM.out.size; omega⟩
      have HM2 := hid' hm2
      have HB2 := hid' hb2
      clear hown1 hg1 hat1 hm2 hb2
      go_wp2
      go_ret
      refine ⟨v1, rfl, ?_, HM2.out, HB2.out⟩
      have e : xs ++ vput n = ys ++ [UInt8.ofNat m] := by rw [← HE.out, HV.out]
      have := HO2.out
      rw [e, List.map_append, List.map_cons, List.map_nil, HC.out, List.length_append]
      exact this
    · have HV := hid' (vput_ge hlt)
      have HC := hid' (bcell_ofNat (m := m % 128 + 128) (by omega))
      have hor := u8_or128 m
      go_wp2_with (at_builtin; go_loud (refine ap_c base rfl (.tmp 9) (.tmp 13) 24 5 (.int .u8 0) 1 rfl (by kernel_rfl) (by kernel_rfl) rfl (by decide) u0 ys.length (ys.map bcell) (.int .u8 ((m % 128 + 128 : Nat) : Int)) rfl rfl rfl HO1.out hsz (by omega) ?_); intro v1 w1 hown1 hg1 hat1)
      have hm2 := HM.out.then_ (Mod.of_grown hg1) (fun i hi e => by
        rcases HB.out with h | ⟨k, h, hk⟩
        · rw [← h]; exact e
        · rw [h] at e; cases e; omega)
      have hb2 : v1.ownBlock = v.ownBlock ∨ ∃ k, v1.ownBlock = some k ∧ w.heap.size ≤ k := by
        rcases hat1 with h | ⟨k, h, hk⟩
        · rw [h]; exact HB.out
        · exact .inr ⟨k, h, by have := HM.out.size; omega⟩
      have HO2 := hid' hown1
      have HM2 := hid' hm2
      have HB2 := hid' hb2
      clear hown1 hg1 hat1 hm2 hb2 hor
      go_wp2
      go_roundw
      case rel =>
        refine ⟨ys ++ [UInt8.ofNat (m % 128 + 128)], m / 128, by go_num, by omega, ?_, ?_, HM2.out, HB2.out⟩
        · unfold Hid; rw [← HE.out, HV.out]; simp
        · have := HO2.out
          rw [List.map_append, List.map_cons, List.map_nil, HC.out, List.length_append]
          exact this
      case measure => simp [intOf]; omega
end Go.Proofs.Yteifpdpppndipaa
