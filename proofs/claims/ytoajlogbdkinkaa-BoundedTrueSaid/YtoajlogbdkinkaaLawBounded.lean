/- The laws of layer 10 (bounded), walked. No condition. -/
import Derived.Test.YtoajlogbdkinkaaBounded10
namespace Go.Proofs.Ytoajlogbdkinkaa
open Go.RowKit
set_option linter.unusedVariables false

theorem law10_speaks (w : World) : Calls Try.prog 43 #[] w fun e w' => e = .returned (.bool true) ∧ Below w.heap.size w w' := by
  have HN := hid' (show (NEV : Int) = -9223372036854775808 from rfl)
  have H1 := hid' (show max (max NEV (bAfter (max NEV 10) 3)) (bAfter (max (max NEV 10) 8) 3) = 6 by decide)
  have H2 := hid' (show bAfter 10 3 = 6 by decide)
  go_enter Try.func43, Try.ntmps43
  go_wp2_with fail
  refine (bounded_New 3 w (by unfold I64 at *; omega)).mono ?_
  rintro e w1 ⟨g, rfl, hg, hb, hB⟩
  go_wp2_with fail
  refine (bounded_Now g _ _ _ _ hb).mono ?_
  rintro e w' ⟨rfl, rfl⟩
  rw [HN.out] at hb ⊢
  go_wp2_with fail
  refine (bounded_Seen g _ _ _ 0 10 _ _ hb (by unfold I64 at *; omega)).mono ?_
  rintro e w2 ⟨rfl, hb2, hm2⟩
  have hB2 := bel_mod hB hm2 (by intro i hi; omega)
  clear hB hm2 hb
  go_wp2_with fail
  refine (bounded_Seen g _ _ _ 0 8 _ _ hb2 (by unfold I64 at *; omega)).mono ?_
  rintro e w3 ⟨rfl, hb3, hm3⟩
  have hB3 := bel_mod hB2 hm3 (by intro i hi; omega)
  clear hB2 hm3 hb2
  rw [← HN.out, H1.out] at hb3
  go_wp2_with fail
  refine (bounded_Now g _ _ _ _ hb3).mono ?_
  rintro e w' ⟨rfl, rfl⟩
  go_wp2_with fail
  refine (bounded_Bound g _ _ _ _ hb3).mono ?_
  rintro e w' ⟨rfl, rfl⟩
  go_wp2_with fail
  refine (bounded_After 10 3 _ (by unfold I64 at *; omega) (by unfold I64 at *; omega)).mono ?_
  rintro e w' ⟨rfl, rfl⟩
  rw [H2.out]
  go_wp2
  go_ret
  exact ⟨rfl, hB3⟩

theorem boundedNows (bound : Int) (A : Option Addr) (c : Nat) (l : List Int) (w : World) (hbo : (Lit.int .i64 bound).wf = true) (hr : Rd w A (l.map (.int .i64))) (hl : ∀ x ∈ l, (Lit.int .i64 x).wf = true) (hn : l.length ≤ maxLen) (hcap : l.length ≤ c) :
    Calls Try.prog 12 #[.int .i64 bound, .slice A l.length c] w fun e w' => e = .returned (.bool true) ∧ Below w.heap.size w w' := by
  have hb' := I64.of_wf hbo
  have hn' : l.length ≤ 9223372036854775807 := hn
  have HR := hid' hr
  have HL := hid' (fun x hx => I64.of_wf (hl x hx))
  clear hl hn hr hbo
  go_enter Try.func12, Try.ntmps12
  go_wp2_with fail
  refine (law10_speaks w).mono ?_
  rintro e w1 ⟨rfl, hB⟩
  by_cases h1 : 200 < l.length
  · go_wp2
    all_goals (go_ret; exact ⟨rfl, hB⟩)
  by_cases h2 : bound < 0
  · go_wp2
    all_goals (go_ret; exact ⟨rfl, hB⟩)
  go_wp2_with fail
  refine (bounded_New bound w1 hb').mono ?_
  rintro e w2 ⟨g, rfl, hg, hbg, hB2⟩
  have hgw : w.heap.size ≤ g := by have := hB.size; omega
  have HB := hid' (bel_then hB hB2)
  have HG := hid' hbg
  clear hB hB2 hbg
  go_wp2
  go_loopw [6, 23] (fun v6 v23 wr => ∃ k : Nat, k ≤ l.length ∧ v23 = .int .i64 k ∧ v6 = .int .i64 (nowOf (l.take k) bound) ∧ Below w.heap.size w wr ∧ BGen wr g bound (nowOf (l.take k) bound) (mostOf (l.take k))) (fun _ v23 _ => l.length - (intOf v23).toNat)
  case atStart => exact ⟨0, Nat.zero_le _, rfl, rfl, HB.out, HG.out⟩
  case round =>
    obtain ⟨k, hk, rfl, rfl, hbl, hbg⟩ := hrel
    by_cases hlt : k < l.length
    · obtain ⟨ad, x, rfl, hx, hcx⟩ := Rd.at_ (HR.out.below hbl) hlt
      have hxi := HL.out x (mem_of_get hx)
      have hts := take_snoc' hx
      have HS := hid' (show max (nowOf (l.take k) bound) (bAfter (max (mostOf (l.take k)) x) bound) = nowOf (l.take (k + 1)) bound by rw [hts, nowOf_snoc])
      have HM := hid' (show max (mostOf (l.take k)) x = mostOf (l.take (k + 1)) by rw [hts, mostOf_snoc])
      have hle : nowOf (l.take k) bound ≤ nowOf (l.take (k + 1)) bound := by rw [hts]; exact nowOf_le _ _ _
      have hlen : (l.take (k + 1)).length = k + 1 := by rw [List.length_take]; omega
      have HLE := hid' hlen
      have HX := hid' (fun y (hy : y ∈ l.take (k + 1)) => HL.out y (List.mem_of_mem_take hy))
      have hcut := cut_h (P := Try.prog) 26 3 1 Try.underlying26 (by kernel_rfl) (some ad) l.length c (k + 1) (by omega)
      rw [show ((k + 1 : Nat) : Int) = (k : Int) + 1 from by omega] at hcut
      clear hx hts hlen
      go_wp2_with fail
      refine (bounded_Seen g bound _ _ _ x _ _ hbg hxi).mono ?_
      rintro e w3 ⟨rfl, hb3, hm3⟩
      rw [HS.out, HM.out] at hb3
      have hbl3 := bel_mod hbl hm3 (by intro i hi; omega)
      have HRk := hid' (show Rd w3 (some ad) ((l.take (k + 1)).map (.int .i64)) from (HR.out.below hbl3).take_map (k + 1))
      clear hbl hm3 hbg
      generalize hq : l.take (k + 1) = q at *
      have HQ := hid' hq
      clear hq
      go_wp2_with fail
      refine (bounded_Now g _ _ _ _ hb3).mono ?_
      rintro e w' ⟨rfl, rfl⟩
      go_wp2_with fail
      refine (ref10_Now (some ad) c (k + 1) q bound _ HRk.out HLE.out (by omega) HX.out hb').mono ?_
      rintro e w4 ⟨rfl, rfl⟩
      go_wp2
      go_roundw
      case rel => exact ⟨k + 1, by omega, by go_num, by rw [HQ.out], hbl3, by rw [HQ.out]; exact hb3⟩
      case measure => simp [intOf]; omega
    · have hkl : l.take k = l := List.take_of_length_le (by omega)
      rw [hkl] at hbg
      clear hkl
      go_wp2_with fail
      refine (bounded_Bound g _ _ _ _ hbg).mono ?_
      rintro e w3 ⟨rfl, rfl⟩
      by_cases h0 : l = []
      · subst h0
        go_wp2_with fail
        refine (bounded_Now g _ _ _ _ hbg).mono ?_
        rintro e w3 ⟨rfl, rfl⟩
        rw [show nowOf [] bound = -9223372036854775808 from rfl]
        go_wp2
        go_ret
        exact ⟨by simp, hbl⟩
      · have hpos : (0 : Int) < (l.length : Int) := by have := List.length_pos_iff.2 h0; omega
        have hpos2 : 0 < l.length := by omega
        clear h0
        go_wp2
        go_ret
        exact ⟨by simp; try omega, hbl⟩
end Go.Proofs.Ytoajlogbdkinkaa
