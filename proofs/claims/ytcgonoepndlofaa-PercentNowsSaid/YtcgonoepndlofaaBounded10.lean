
/- The reference of layer 10, and its times as a plain law. No condition. -/
import Derived.Test.YtcgonoepndlofaaBounded
namespace Go.Proofs.Ytcgonoepndlofaa
set_option maxRecDepth 100000
set_option linter.unusedSimpArgs false
open Go.RowKit
set_option linter.unusedVariables false

def mostOf (xs : List Int) : Int := xs.foldl max NEV
def nowOf (xs : List Int) (b : Int) : Int := if xs = [] then NEV else bAfter (mostOf xs) b
theorem mostOf_snoc (xs : List Int) (x : Int) : mostOf (xs ++ [x]) = max (mostOf xs) x := by simp [mostOf]
theorem mostOf_I64 (xs : List Int) (h : ∀ x ∈ xs, I64 x) : I64 (mostOf xs) := by
  have : ∀ (xs : List Int) (a : Int), I64 a → (∀ x ∈ xs, I64 x) → I64 (xs.foldl max a) := by
    intro xs
    induction xs with
    | nil => intro a h _; exact h
    | cons x xs ih =>
      intro a h h2
      refine ih _ ?_ (fun y hy => h2 y (List.mem_cons_of_mem _ hy))
      have := h2 x (List.mem_cons_self ..)
      unfold I64 at *; omega
  exact this xs NEV I64.nev h
theorem bAfter_mono {a a' : Int} (b : Int) (h : a ≤ a') : bAfter a b ≤ bAfter a' b := by unfold bAfter satSub; repeat' split <;> omega
theorem nev_le {a : Int} (h : I64 a) : NEV ≤ a := h.1
theorem nowOf_snoc (xs : List Int) (x b : Int) : max (nowOf xs b) (bAfter (max (mostOf xs) x) b) = nowOf (xs ++ [x]) b := by
  have h2 : nowOf (xs ++ [x]) b = bAfter (max (mostOf xs) x) b := by unfold nowOf; rw [if_neg (by simp), mostOf_snoc]
  rw [h2]
  unfold nowOf
  by_cases h : xs = []
  · rw [if_pos h]; exact Int.max_eq_right (nev_le (I64.bAfter _ _))
  · rw [if_neg h]; exact Int.max_eq_right (bAfter_mono b (by omega))
theorem nowOf_le (xs : List Int) (x b : Int) : nowOf xs b ≤ nowOf (xs ++ [x]) b := by rw [← nowOf_snoc]; omega
theorem nowOf_I64 (xs : List Int) (b : Int) : I64 (nowOf xs b) := by unfold nowOf; split; exact I64.nev; exact I64.bAfter _ _

theorem ref10_Most (A : Option Addr) (c n : Nat) (xs : List Int) (w : World) (h : Rd w A (xs.map (.int .i64))) (hl : xs.length = n) (hn : n ≤ 9223372036854775807) :
    Calls Try.prog 65 #[.slice A n c] w fun e w' => e = .returned (.int .i64 (mostOf xs)) ∧ w = w' := by
  subst hl
  have H := hid' h
  clear h
  go_enter Try.func65, Try.ntmps65
  go_wp2
  go_loop [3, 4] (fun v3 v4 => ∃ k : Nat, k ≤ xs.length ∧ v4 = .int .i64 k ∧ v3 = .int .i64 (mostOf (xs.take k))) (fun _ v4 => xs.length - (intOf v4).toNat)
  case atStart => exact ⟨0, Nat.zero_le _, rfl, rfl⟩
  case round =>
    obtain ⟨k, hk, rfl, rfl⟩ := hrel
    by_cases hlt : k < xs.length
    · obtain ⟨ad, x, rfl, hx, hc⟩ := Rd.at_ H.out hlt
      have HS := hid' (show mostOf (xs.take (k + 1)) = max (mostOf (xs.take k)) x by rw [take_snoc' hx, mostOf_snoc])
      clear hx
      generalize hm : mostOf (xs.take k) = m at *
      clear hm
      by_cases hxm : m < x
      · have HM := hid' (show max m x = x by omega)
        go_wp2
        go_round
        case rel => exact ⟨k + 1, by omega, by go_num, by rw [HS.out, HM.out]⟩
        case measure => simp [intOf]; omega
      · have HM := hid' (show max m x = m by omega)
        go_wp2
        go_round
        case rel => exact ⟨k + 1, by omega, by go_num, by rw [HS.out, HM.out]⟩
        case measure => simp [intOf]; omega
    · go_wp2
      go_ret
      exact ⟨ret_int (by rw [List.take_of_length_le (by omega)]), rfl⟩
theorem ref10_Now (A : Option Addr) (c n : Nat) (xs : List Int) (b : Int) (w : World) (h : Rd w A (xs.map (.int .i64))) (hl : xs.length = n) (hn : n ≤ 9223372036854775807) (hx : ∀ x ∈ xs, I64 x) (hb : I64 b) :
    Calls Try.prog 61 #[.slice A n c, .int .i64 b] w fun e w' => e = .returned (.int .i64 (nowOf xs b)) ∧ w = w' := by
  by_cases h0 : xs = []
  · have HN := hid' (show nowOf xs b = NEV by unfold nowOf; rw [if_pos h0])
    have hn0 : n = 0 := by subst h0; simpa using hl.symm
    subst hn0
    go_enter Try.func61, Try.ntmps61
    go_wp2
    go_ret
    exact ⟨ret_int HN.out.symm, rfl⟩
  · have HN := hid' (show nowOf xs b = satSub (satSub (mostOf xs) b) 1 by unfold nowOf; rw [if_neg h0]; rfl)
    have hn0 : ((n : Int) == 0) = false := by
      rw [beq_eq_false_iff_ne]
      have : 0 < xs.length := List.length_pos_iff.2 h0
      omega
    have hn1 : (n == 0) = false := by
      rw [beq_eq_false_iff_ne]
      have : 0 < xs.length := List.length_pos_iff.2 h0
      omega
    have HL := hid' hl
    have HR := hid' h
    have HM := hid' (mostOf_I64 xs hx)
    clear hl h hx h0
    go_enter Try.func61, Try.ntmps61
    go_wp2_with fail
    refine (ref10_Most A c n xs _ HR.out HL.out hn).mono ?_
    rintro e w' ⟨rfl, rfl⟩
    go_wp2_with fail
    refine (ref_Sub (mostOf xs) b _ HM.out hb).mono ?_
    rintro e w' ⟨rfl, rfl⟩
    go_wp2_with fail
    refine (ref_Sub (satSub (mostOf xs) b) 1 _ (I64.satSub _ _) (by unfold I64 at *; omega)).mono ?_
    rintro e w' ⟨rfl, rfl⟩
    go_wp2
    go_ret
    exact ⟨ret_int HN.out.symm, rfl⟩
end Go.Proofs.Ytcgonoepndlofaa
