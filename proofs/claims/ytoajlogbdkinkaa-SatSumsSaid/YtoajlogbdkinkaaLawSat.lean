/- The laws of layer 1 (sat), walked. No condition. -/
import Derived.Test.YtoajlogbdkinkaaSat
import Derived.Test.YtoajlogbdkinkaaOpen
namespace Go.Proofs.Ytoajlogbdkinkaa
open Go.RowKit
set_option linter.unusedVariables false

theorem law01_speaks (w : World) : Calls Try.prog 15 #[] w fun e w' => e = .returned (.bool true) ∧ w = w' := by
  have H0 := hid' (show satAdd 9223372036854775807 1 = 9223372036854775807 by decide)
  have H1 := hid' (show satSub (-9223372036854775808) 1 = -9223372036854775808 by decide)
  have H2 := hid' (show satAdd 2 (-3) = -1 by decide)
  go_enter Try.func15, Try.ntmps15
  go_wp2_with fail
  refine (sat_Add 9223372036854775807 1 _ (by unfold I64 at *; omega) (by unfold I64 at *; omega)).mono ?_
  rintro e w' ⟨rfl, rfl⟩
  rw [H0.out]
  go_wp2_with fail
  refine (sat_Sub (-9223372036854775808) 1 _ (by unfold I64 at *; omega) (by unfold I64 at *; omega)).mono ?_
  rintro e w' ⟨rfl, rfl⟩
  rw [H1.out]
  go_wp2_with fail
  refine (sat_Add 2 (-3) _ (by unfold I64 at *; omega) (by unfold I64 at *; omega)).mono ?_
  rintro e w' ⟨rfl, rfl⟩
  rw [H2.out]
  go_wp2
  go_ret
  exact ⟨rfl, rfl⟩

theorem satAdds (a b : Int) (w : World) (ha : (Lit.int .i64 a).wf = true) (hb : (Lit.int .i64 b).wf = true) :
    Calls Try.prog 3 #[.int .i64 a, .int .i64 b] w fun e w' => e = .returned (.bool true) ∧ Below w.heap.size w w' := by
  have ha' := I64.of_wf ha
  have hb' := I64.of_wf hb
  have H0 := hid' (show satAdd b a = satAdd a b by unfold satAdd; rw [Int.add_comm])
  clear ha hb
  go_enter Try.func3, Try.ntmps3
  go_wp2_with fail
  refine (law01_speaks w).mono ?_
  rintro e w' ⟨rfl, rfl⟩
  go_wp2_with fail
  refine (sat_Add a b _ ha' hb').mono ?_
  rintro e w' ⟨rfl, rfl⟩
  go_wp2_with fail
  refine (ref_Add a b _ ha' hb').mono ?_
  rintro e w' ⟨rfl, rfl⟩
  go_wp2_with fail
  refine (sat_Sub a b _ ha' hb').mono ?_
  rintro e w' ⟨rfl, rfl⟩
  go_wp2_with fail
  refine (ref_Sub a b _ ha' hb').mono ?_
  rintro e w' ⟨rfl, rfl⟩
  go_wp2_with fail
  refine (sat_Add a b _ ha' hb').mono ?_
  rintro e w' ⟨rfl, rfl⟩
  go_wp2_with fail
  refine (sat_Add b a _ hb' ha').mono ?_
  rintro e w' ⟨rfl, rfl⟩
  rw [H0.out]
  go_wp2
  go_ret
  exact ⟨by simp, Below.refl _ _⟩

theorem satRises (a b c : Int) (w : World) (ha : (Lit.int .i64 a).wf = true) (hb : (Lit.int .i64 b).wf = true) (hc : (Lit.int .i64 c).wf = true) :
    Calls Try.prog 4 #[.int .i64 a, .int .i64 b, .int .i64 c] w fun e w' => e = .returned (.bool true) ∧ Below w.heap.size w w' := by
  have ha' := I64.of_wf ha
  have hb' := I64.of_wf hb
  have hc' := I64.of_wf hc
  clear ha hb hc
  have hx : I64 (min a b) := by unfold I64 at *; omega
  have hy : I64 (max a b) := by unfold I64 at *; omega
  have h1 : satAdd (min a b) c ≤ satAdd (max a b) c := by unfold satAdd; repeat' split <;> omega
  have h2 : satSub (min a b) c ≤ satSub (max a b) c := by unfold satSub; repeat' split <;> omega
  have h3 : satSub c (max a b) ≤ satSub c (min a b) := by unfold satSub; repeat' split <;> omega
  go_enter Try.func4, Try.ntmps4
  go_wp2_with fail
  refine (law01_speaks w).mono ?_
  rintro e w' ⟨rfl, rfl⟩
  go_wp2_with fail
  refine (sat_Add (min a b) c _ hx hc').mono ?_
  rintro e w' ⟨rfl, rfl⟩
  go_wp2_with fail
  refine (sat_Add (max a b) c _ hy hc').mono ?_
  rintro e w' ⟨rfl, rfl⟩
  go_wp2_with fail
  refine (sat_Sub (min a b) c _ hx hc').mono ?_
  rintro e w' ⟨rfl, rfl⟩
  go_wp2_with fail
  refine (sat_Sub (max a b) c _ hy hc').mono ?_
  rintro e w' ⟨rfl, rfl⟩
  go_wp2_with fail
  refine (sat_Sub c (max a b) _ hc' hy).mono ?_
  rintro e w' ⟨rfl, rfl⟩
  go_wp2_with fail
  refine (sat_Sub c (min a b) _ hc' hx).mono ?_
  rintro e w' ⟨rfl, rfl⟩
  go_wp2
  go_ret
  exact ⟨by simp, Below.refl _ _⟩

theorem satSums (A : Option Addr) (c : Nat) (l : List Int) (n : Int) (cs : Array Value) (ends : List Int) (w : World) (hr : Rd w A (l.map (.int .i64))) (hl : ∀ x ∈ l, (Lit.int .i64 x).wf = true) (hn : l.length ≤ maxLen)
    (hw : (Lit.int .i64 n).wf = true) (he : RArr .i64 2 w (Value.agg cs).cells.toList ends) :
    Calls Try.prog 5 #[.slice A l.length c, .int .i64 n, .agg cs] w fun e w' => e = .returned (.bool true) ∧ Below w.heap.size w w' := by
  have hw' := I64.of_wf hw
  have hn' : l.length ≤ 9223372036854775807 := hn
  have HL := hid' (fun x hx => I64.of_wf (hl x hx))
  have HR := hid' hr
  obtain ⟨hel, hec, _⟩ := he
  match ends, hel with
  | [p, q], _ =>
  have hcs : cs = #[.int .i64 p, .int .i64 q] := by
    have : cs.toList = [.int .i64 p, .int .i64 q] := hec
    exact Array.toList_inj.1 this
  subst hcs
  clear hec hw hn hl hr
  go_enter Try.func5, Try.ntmps5
  go_wp2_with fail
  refine (law01_speaks _).mono ?_
  rintro e w' ⟨rfl, rfl⟩
  by_cases h1 : 1000 < l.length
  · go_wp2
    all_goals (go_ret; exact ⟨rfl, bel_alloc (bel_refl _) _⟩)
  go_wp2
  go_loop [7, 20] (fun s i => ∃ k : Nat, k ≤ l.length ∧ i = .int .i64 k ∧ s = .int .i64 ((l.take k).foldl satAdd 0)) (fun _ i => l.length - (intOf i).toNat)
  case atStart => exact ⟨0, Nat.zero_le _, rfl, rfl⟩
  case round =>
    obtain ⟨k, hk, rfl, rfl⟩ := hrel
    by_cases hlt : k < l.length
    · obtain ⟨ad, x, rfl, hx, hc⟩ := Rd.at_ (HR.out.below (bel_alloc (bel_refl w) (.cells #[.int .i64 p, .int .i64 q] 27))) hlt
      have hxi := HL.out x (mem_of_get hx)
      have HS := hid' (show (l.take (k + 1)).foldl satAdd 0 = satAdd ((l.take k).foldl satAdd 0) x by rw [take_snoc' hx]; simp)
      have HG := hid' (foldl_I64 (l.take k) 0 (by unfold I64; omega))
      clear hx
      go_wp2_with fail
      refine (ref_Add _ x _ HG.out hxi).mono ?_
      rintro e w' ⟨rfl, rfl⟩
      go_wp2
      go_round
      case rel => exact ⟨k + 1, by omega, by go_num, by rw [HS.out]⟩
      case measure => simp [intOf]; omega
    · have HS := hid' (show (l.take k).foldl satAdd 0 = l.foldl satAdd 0 by rw [List.take_of_length_le (by omega)])
      go_wp2
      go_quiet (fail)
      go_wp2_with fail
      refine (sat_Within n (min p q) (max p q) _).mono ?_
      rintro e w' ⟨rfl, rfl⟩
      go_wp2_with fail
      refine (sat_Sum A c l _ (by exact HR.out.below (bel_drewN (bel_alloc (bel_refl w) _) _)) HL.out hn').mono ?_
      rintro e w' ⟨rfl, rfl⟩
      rw [HS.out]
      have hab : min p q ≤ max p q := by omega
      generalize min p q = a at *
      generalize max p q = b at *
      by_cases c1 : n < a
      · have e1 : max (min n b) a = a := by omega
        have hb1 : decide (n < a) = true := by rw [decide_eq_true_eq]; exact c1
        have hb2 : decide (a ≤ n) = false := by rw [decide_eq_false_iff_not]; omega
        have hb3 : decide (n ≤ b) = true := by rw [decide_eq_true_eq]; omega
        rw [e1]
        clear e1
        go_wp2
        go_ret
        exact ⟨by simp; try omega, (by repeat (first | assumption | apply bel_alloc | apply bel_drewN | apply bel_drew | exact bel_refl _))⟩
      · by_cases c2 : b < n
        · have e1 : max (min n b) a = b := by omega
          have hb1 : decide (n < a) = false := by rw [decide_eq_false_iff_not]; exact c1
          have hb2 : decide (a ≤ n) = true := by rw [decide_eq_true_eq]; omega
          have hb3 : decide (n ≤ b) = false := by rw [decide_eq_false_iff_not]; omega
          have hb4 : decide (b < n) = true := by rw [decide_eq_true_eq]; omega
          rw [e1]
          clear e1
          go_wp2
          go_ret
          exact ⟨by simp; try omega, (by repeat (first | assumption | apply bel_alloc | apply bel_drewN | apply bel_drew | exact bel_refl _))⟩
        · have e1 : max (min n b) a = n := by omega
          have hb1 : decide (n < a) = false := by rw [decide_eq_false_iff_not]; exact c1
          have hb2 : decide (a ≤ n) = true := by rw [decide_eq_true_eq]; omega
          have hb3 : decide (n ≤ b) = true := by rw [decide_eq_true_eq]; omega
          have hb4 : decide (b < n) = false := by rw [decide_eq_false_iff_not]; omega
          rw [e1]
          clear e1
          go_wp2
          go_ret
          exact ⟨by simp; try omega, (by repeat (first | assumption | apply bel_alloc | apply bel_drewN | apply bel_drew | exact bel_refl _))⟩
end Go.Proofs.Ytoajlogbdkinkaa
