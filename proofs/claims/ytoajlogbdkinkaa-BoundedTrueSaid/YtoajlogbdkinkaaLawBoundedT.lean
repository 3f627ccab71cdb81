/- The law BoundedTrue of layer 10, walked. No condition. -/
import Derived.Test.YtoajlogbdkinkaaLawBounded
namespace Go.Proofs.Ytoajlogbdkinkaa
open Go.RowKit
set_option linter.unusedVariables false

theorem bTrue (p : List Int) (x bound : Int) (hb0 : 0 ≤ bound) (hx : -9223372036854775808 + bound + 1 ≤ x) (h : p ≠ [] → satSub (mostOf p) bound ≤ x) : nowOf p bound < x := by
  unfold nowOf
  split
  · unfold NEV; omega
  · rename_i hp
    have h := h hp
    unfold bAfter
    generalize satSub (mostOf p) bound = z at *
    unfold satSub
    split <;> (try split) <;> omega

theorem boundedTrue (bound : Int) (A : Option Addr) (c : Nat) (l : List Int) (w : World) (hbo : (Lit.int .i64 bound).wf = true) (hr : Rd w A (l.map (.int .i64))) (hl : ∀ x ∈ l, (Lit.int .i64 x).wf = true) (hn : l.length ≤ maxLen) (hcap : l.length ≤ c) :
    Calls Try.prog 13 #[.int .i64 bound, .slice A l.length c] w fun e w' => e = .returned (.bool true) ∧ Below w.heap.size w w' := by
  have hb' := I64.of_wf hbo
  have hn' : l.length ≤ 9223372036854775807 := hn
  have HR := hid' hr
  have HL := hid' (fun x hx => I64.of_wf (hl x hx))
  clear hl hn hr hbo
  go_enter Try.func13, Try.ntmps13
  go_wp2_with fail
  refine (law10_speaks w).mono ?_
  rintro e w1 ⟨rfl, hB⟩
  by_cases h1 : 200 < l.length
  · go_wp2
    all_goals (go_ret; exact ⟨rfl, hB⟩)
  by_cases h2 : bound < 0
  · go_wp2
    all_goals (go_ret; exact ⟨rfl, hB⟩)
  by_cases h3 : 4611686018427387904 < bound
  · go_wp2
    all_goals (go_ret; exact ⟨rfl, hB⟩)
  go_wp2_with fail
  refine (bounded_New bound w1 hb').mono ?_
  rintro e w2 ⟨g, rfl, hg, hbg, hB2⟩
  have hgw : w.heap.size ≤ g := by have := hB.size; omega
  have HB := hid' (bel_then hB hB2)
  have HG := hid' hbg
  clear hB hB2 hbg
  go_wp2
  go_loopw [25] (fun v25 wr => ∃ k : Nat, k ≤ l.length ∧ v25 = .int .i64 k ∧ Below w.heap.size w wr ∧ BGen wr g bound (nowOf (l.take k) bound) (mostOf (l.take k))) (fun v25 _ => l.length - (intOf v25).toNat)
  case atStart => exact ⟨0, Nat.zero_le _, rfl, HB.out, HG.out⟩
  case round =>
    obtain ⟨k, hk, rfl, hbl, hbg⟩ := hrel
    by_cases hlt : k < l.length
    · obtain ⟨ad, x, rfl, hx, hcx⟩ := Rd.at_ (HR.out.below hbl) hlt
      have hxi := HL.out x (mem_of_get hx)
      have hts := take_snoc' hx
      have HS := hid' (show max (nowOf (l.take k) bound) (bAfter (max (mostOf (l.take k)) x) bound) = nowOf (l.take (k + 1)) bound by rw [hts, nowOf_snoc])
      have HM := hid' (show max (mostOf (l.take k)) x = mostOf (l.take (k + 1)) by rw [hts, mostOf_snoc])
      have HX := hid' (mostOf_I64 (l.take k) (fun y (hy : y ∈ l.take k) => HL.out y (List.mem_of_mem_take hy)))
      have HTr := hid' (bTrue (l.take k) x bound (by omega))
      have hcut := cut_h (P := Try.prog) 26 3 1 Try.underlying26 (by kernel_rfl) (some ad) l.length c k (by omega)
      have hlen : (l.take k).length = k := by rw [List.length_take]; omega
      have HLE := hid' hlen
      have HRk := hid' (show Rd wr (some ad) ((l.take k).map (.int .i64)) from (HR.out.below hbl).take_map k)
      have hne : l.take k = [] → k = 0 := by intro e; rw [e] at hlen; simpa using hlen.symm
      have HNE := hid' hne
      clear hx hts hlen hne
      generalize hq : l.take k = q at *
      have HQ := hid' hq
      clear hq
      by_cases hlow : x < -9223372036854775808 + bound + 1
      · by_cases hk0 : 0 < k
        · have hd0 : decide (0 < k) = true := by rw [decide_eq_true_eq]; exact hk0
          go_wp2_with fail
          refine (ref10_Most (some ad) c k q _ HRk.out HLE.out (by omega)).mono ?_
          rintro e w4 ⟨rfl, rfl⟩
          go_wp2_with fail
          refine (ref_Sub (mostOf q) bound _ HX.out hb').mono ?_
          rintro e w4 ⟨rfl, rfl⟩
          go_wp2
          all_goals (go_ret; exact ⟨rfl, hbl⟩)
        · have hd0 : decide (0 < k) = false := by rw [decide_eq_false_iff_not]; exact hk0
          go_wp2
          all_goals (go_ret; exact ⟨rfl, hbl⟩)
      · by_cases hk0 : 0 < k
        · have hd0 : decide (0 < k) = true := by rw [decide_eq_true_eq]; exact hk0
          go_wp2_with fail
          refine (ref10_Most (some ad) c k q _ HRk.out HLE.out (by omega)).mono ?_
          rintro e w4 ⟨rfl, rfl⟩
          go_wp2_with fail
          refine (ref_Sub (mostOf q) bound _ HX.out hb').mono ?_
          rintro e w4 ⟨rfl, rfl⟩
          by_cases hsl : x < satSub (mostOf q) bound
          · go_wp2
            all_goals (go_ret; exact ⟨rfl, hbl⟩)
          · have hgt : nowOf q bound < x := HTr.out (by omega) (fun _ => by omega)
            go_wp2_with fail
            refine (bounded_Now g _ _ _ _ hbg).mono ?_
            rintro e w4 ⟨rfl, rfl⟩
            go_wp2_with fail
            refine (bounded_Seen g bound _ _ _ x _ _ hbg hxi).mono ?_
            rintro e w5 ⟨rfl, hb3, hm3⟩
            rw [HS.out, HM.out] at hb3
            have hbl3 := bel_mod hbl hm3 (by intro i hi; omega)
            clear hbl hm3 hbg
            go_wp2
            go_roundw
            case rel => exact ⟨k + 1, by omega, by go_num, hbl3, hb3⟩
            case measure => simp [intOf]; omega
        · have hd0 : decide (0 < k) = false := by rw [decide_eq_false_iff_not]; exact hk0
          have hgt : nowOf q bound < x := HTr.out (by omega) (fun hn => absurd (by
            have : q.length = 0 := by rw [HLE.out]; omega
            exact List.eq_nil_of_length_eq_zero this) hn)
          go_wp2_with fail
          refine (bounded_Now g _ _ _ _ hbg).mono ?_
          rintro e w4 ⟨rfl, rfl⟩
          go_wp2_with fail
          refine (bounded_Seen g bound _ _ _ x _ _ hbg hxi).mono ?_
          rintro e w5 ⟨rfl, hb3, hm3⟩
          rw [HS.out, HM.out] at hb3
          have hbl3 := bel_mod hbl hm3 (by intro i hi; omega)
          clear hbl hm3 hbg
          go_wp2
          go_roundw
          case rel => exact ⟨k + 1, by omega, by go_num, hbl3, hb3⟩
          case measure => simp [intOf]; omega
    · go_wp2
      go_ret
      exact ⟨rfl, hbl⟩
end Go.Proofs.Ytoajlogbdkinkaa
