
/- Numbers in words, and back: the plain law. No program. -/
import Derived.Test.YtockkjhciojgbaaGreatDoorPackA
import Derived.Lib.ItoaNum
import Derived.Lib.ItoaLen
import Derived.Lib.AtoiAllCases
namespace Go.Proofs.YtockkjhciojgbaaGreatDoor
set_option maxRecDepth 100000
set_option linter.unusedSimpArgs false
set_option linter.unusedVariables false
set_option linter.unusedSimpArgs false

/-- the number of a word, as it is written -/
def rdN (l : List UInt8) : Option Int := match Lib.atoiAll l with | .ok v => if Lib.itoa v = l then some v else none | _ => none
theorem pu10_app : ∀ (a b : List UInt8) (acc m : Nat), Lib.parseUint10 acc a = .ok m → Lib.parseUint10 acc (a ++ b) = Lib.parseUint10 m b
  | [], b, acc, m, h => by simp only [Lib.parseUint10] at h; injection h with h; subst h; rfl
  | c :: a, b, acc, m, h => by
    simp only [Lib.parseUint10, List.cons_append] at h ⊢
    split at h
    · rename_i h1
      rw [if_pos h1]
      split at h
      · cases h
      · rename_i h2
        rw [if_neg h2]
        split at h
        · cases h
        · rename_i h3
          rw [if_neg h3]
          exact pu10_app a b _ m h
    · cases h
theorem dig_nat {d : Nat} (h : d < 10) : (UInt8.ofNat (48 + d)).toNat = 48 + d := by simp; omega
theorem dec_lt10 {u : Nat} (h : u < 10) : Lib.decDigits u = [UInt8.ofNat (48 + u)] := Lib.decDigits_one h
theorem dec_ge10 {u : Nat} (h : ¬ u < 10) : Lib.decDigits u = Lib.decDigits (u / 10) ++ [UInt8.ofNat (48 + u % 10)] := by rw [Lib.decDigits, dif_neg h]
theorem pu10_dec : ∀ u, u < 18446744073709551616 → Lib.parseUint10 0 (Lib.decDigits u) = .ok u := by
  intro u
  induction u using Nat.strongRecOn with
  | ind u ih =>
    intro h
    by_cases h10 : u < 10
    · rw [dec_lt10 h10]
      simp only [Lib.parseUint10, dig_nat h10]
      rw [if_pos (by omega), if_neg (by omega), if_neg (by omega)]
      congr 1; omega
    · rw [dec_ge10 h10, pu10_app _ _ _ _ (ih (u / 10) (by omega) (by omega))]
      simp only [Lib.parseUint10, dig_nat (show u % 10 < 10 by omega)]
      rw [if_pos (by omega), if_neg (by omega), if_neg (by omega)]
      congr 1; omega
theorem dec_ne (u : Nat) : Lib.decDigits u ≠ [] := by
  by_cases h : u < 10
  · rw [dec_lt10 h]; simp
  · rw [dec_ge10 h]; simp
theorem dec_mem : ∀ u, ∀ c ∈ Lib.decDigits u, 48 ≤ c.toNat ∧ c.toNat ≤ 57 := by
  intro u
  induction u using Nat.strongRecOn with
  | ind u ih =>
    intro c hc
    by_cases h10 : u < 10
    · rw [dec_lt10 h10, List.mem_singleton] at hc
      subst hc; rw [dig_nat h10]; omega
    · rw [dec_ge10 h10] at hc
      rcases List.mem_append.1 hc with h | h
      · exact ih _ (by omega) c h
      · rw [List.mem_singleton] at h
        subst h; rw [dig_nat (by omega)]; omega
theorem mag_dec {u : Nat} (h : u < 18446744073709551616) : Lib.parseMag (Lib.decDigits u) = .ok u := by
  unfold Lib.parseMag
  rw [if_neg (dec_ne u)]
  exact pu10_dec u h
theorem atoi_itoa {n : Int} (h : I64 n) : Lib.atoiAll (Lib.itoa n) = .ok n := by
  unfold I64 at h
  unfold Lib.itoa
  by_cases h0 : n < 0
  · rw [if_pos h0]
    unfold Lib.atoiAll
    simp only
    rw [if_pos (by right; rfl), mag_dec (by omega)]
    simp only
    rw [if_neg (by intro hh; exact hh.1 rfl), if_neg (by omega), if_pos (by rfl)]
    congr 1; omega
  · rw [if_neg h0]
    cases hd : Lib.decDigits n.toNat with
    | nil => exact absurd hd (dec_ne _)
    | cons c r =>
      have hc := dec_mem n.toNat c (by rw [hd]; exact List.mem_cons_self ..)
      unfold Lib.atoiAll
      simp only
      rw [if_neg (by omega), ← hd, mag_dec (by omega)]
      simp only
      rw [if_neg (by omega), if_neg (by omega), if_neg (by omega)]
      congr 1; omega
theorem rdN_itoa {n : Int} (h : I64 n) : rdN (Lib.itoa n) = some n := by
  unfold rdN
  rw [atoi_itoa h]
  simp
theorem rdN_some {l : List UInt8} {n : Int} (h : rdN l = some n) : Lib.itoa n = l ∧ I64 n := by
  unfold rdN at h
  split at h
  · rename_i v hv
    split at h
    · rename_i he
      simp only [Option.some.injEq] at h
      subst h
      exact ⟨he, Lib.atoiAll_bounds hv⟩
    · cases h
  · cases h
theorem itoa_mem (n : Int) : ∀ c ∈ Lib.itoa n, c.toNat = 45 ∨ (48 ≤ c.toNat ∧ c.toNat ≤ 57) := by
  intro c hc
  unfold Lib.itoa at hc
  split at hc
  · rcases List.mem_cons.1 hc with rfl | h
    · exact .inl rfl
    · exact .inr (dec_mem _ c h)
  · exact .inr (dec_mem _ c hc)
theorem itoa_ne (n : Int) : Lib.itoa n ≠ [] := by
  unfold Lib.itoa
  split
  · simp
  · exact dec_ne _
theorem itoa_len {n : Int} (h : I64 n) : (Lib.itoa n).length ≤ 21 := Lib.itoa_length_le n h.1 h.2
theorem itoa_inj {n m : Int} (hn : I64 n) (hm : I64 m) (h : Lib.itoa n = Lib.itoa m) : n = m := by
  have h1 := rdN_itoa hn
  rw [h, rdN_itoa hm] at h1
  exact (Option.some.inj h1).symm
/-- a number's digits but the last, and the last -/
theorem itoa_pos_small {n : Nat} (h : n < 10) : Lib.itoa (n : Int) = [UInt8.ofNat (48 + n)] := by
  unfold Lib.itoa; rw [if_neg (by omega)]; exact dec_lt10 h
theorem itoa_pos_big {n : Nat} (h : ¬ n < 10) : Lib.itoa (n : Int) = Lib.itoa ((n / 10 : Nat) : Int) ++ [UInt8.ofNat (48 + n % 10)] := by
  unfold Lib.itoa; rw [if_neg (by omega), if_neg (by omega)]; exact dec_ge10 h
theorem itoa_neg_small {n : Nat} (h0 : 1 ≤ n) (h : n < 10) : Lib.itoa (-(n : Int)) = [45, UInt8.ofNat (48 + n)] := by
  unfold Lib.itoa; rw [if_pos (by omega), show (-(n : Int)).natAbs = n by omega, dec_lt10 h]
theorem itoa_neg_big {n : Nat} (h : ¬ n < 10) : Lib.itoa (-(n : Int)) = Lib.itoa (-((n / 10 : Nat) : Int)) ++ [UInt8.ofNat (48 + n % 10)] := by
  unfold Lib.itoa; rw [if_pos (by omega), if_pos (by omega), show (-(n : Int)).natAbs = n by omega, show (-((n / 10 : Nat) : Int)).natAbs = n / 10 by omega, dec_ge10 h]; rfl
end Go.Proofs.YtockkjhciojgbaaGreatDoor
