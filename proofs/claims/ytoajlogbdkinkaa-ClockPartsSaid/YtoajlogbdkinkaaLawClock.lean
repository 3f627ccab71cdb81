/- The laws of layer 14 (clock), walked. No condition. -/
import Derived.Test.YtoajlogbdkinkaaClock
namespace Go.Proofs.Ytoajlogbdkinkaa
open Go.RowKit
set_option linter.unusedVariables false

theorem law14_speaks (w : World) : Calls Try.prog 22 #[] w fun e w' => e = .returned (.bool true) ∧ Below w.heap.size w w' := by
  have H0 := hid' (show clockGo 0 5 = 5 by decide)
  have H1 := hid' (show clockGo 5 (-1) = 5 by decide)
  have H2 := hid' (show satAdd 5 (max 9223372036854775807 0) = 9223372036854775807 by decide)
  go_enter Try.func22, Try.ntmps22
  go_wp2_with fail
  refine (clock_Go _ 0 0 5 _ (by simp) (by simp) (by unfold I64 at *; omega) (by unfold I64 at *; omega)).mono ?_
  rintro e w' ⟨rfl, rfl⟩
  rw [H0.out]
  go_wp2_with fail
  refine (clock_Go _ 0 5 (-1) _ (by simp) (by simp) (by unfold I64 at *; omega) (by unfold I64 at *; omega)).mono ?_
  rintro e w' ⟨rfl, rfl⟩
  rw [H1.out]
  go_wp2_with fail
  refine (clock_Now _ 0 5 _ (by simp)).mono ?_
  rintro e w' ⟨rfl, rfl⟩
  go_wp2_with fail
  refine (clock_Until _ 0 5 9223372036854775807 _ (by simp) (by unfold I64 at *; omega) (by unfold I64 at *; omega)).mono ?_
  rintro e w' ⟨rfl, rfl⟩
  rw [H2.out]
  go_wp2_with fail
  refine (clock_Past _ 0 5 5 _ (by simp)).mono ?_
  rintro e w' ⟨rfl, rfl⟩
  go_wp2_with fail
  refine (clock_Past _ 0 5 6 _ (by simp)).mono ?_
  rintro e w' ⟨rfl, rfl⟩
  go_wp2
  go_ret
  exact ⟨rfl, (Below.refl _ _).alloc (Nat.le_refl _) _⟩

theorem clockParts (a b : Int) (w : World) (ha : (Lit.int .i64 a).wf = true) (hb : (Lit.int .i64 b).wf = true) :
    Calls Try.prog 7 #[.int .i64 a, .int .i64 b] w fun e w' => e = .returned (.bool true) ∧ Below w.heap.size w w' := by
  have ha' := I64.of_wf ha
  have hb' := I64.of_wf hb
  clear ha hb
  go_enter Try.func7, Try.ntmps7
  go_wp2_with fail
  refine (law14_speaks w).mono ?_
  rintro e w1 ⟨rfl, hB⟩
  by_cases h1 : a < 0
  · go_wp2
    all_goals (go_ret; exact ⟨rfl, hB⟩)
  by_cases h2 : b < 0
  · go_wp2
    all_goals (go_ret; exact ⟨rfl, hB⟩)
  have H0 := hid' (show clockGo 0 a = a by unfold clockGo satAdd; unfold I64 at *; split <;> (try split) <;> (try split) <;> omega)
  have H1 := hid' (show clockGo a b = satAdd a b by unfold clockGo; rw [if_neg h2])
  have hp : 0 ≤ satAdd a b := by unfold satAdd; split <;> (try split) <;> omega
  have H2 := hid' (show clockGo 0 (satAdd a b) = satAdd a b by have := I64.satAdd a b; unfold clockGo; rw [if_neg (by omega)]; generalize satAdd a b = z at *; unfold satAdd; unfold I64 at *; split <;> (try split) <;> omega)
  go_wp2_with fail
  refine (clock_Go _ 0 0 a _ (by simp) (by simp) (by unfold I64 at *; omega) ha').mono ?_
  rintro e w' ⟨rfl, rfl⟩
  rw [H0.out]
  go_wp2_with fail
  refine (clock_Go _ 0 a b _ (by simp) (by simp) ha' hb').mono ?_
  rintro e w' ⟨rfl, rfl⟩
  rw [H1.out]
  go_wp2_with fail
  refine (ref_Add a b _ ha' hb').mono ?_
  rintro e w' ⟨rfl, rfl⟩
  go_wp2_with fail
  refine (clock_Go _ 0 0 (satAdd a b) _ (by simp) (by simp) (by unfold I64 at *; omega) (I64.satAdd _ _)).mono ?_
  rintro e w' ⟨rfl, rfl⟩
  rw [H2.out]
  go_wp2_with fail
  refine (clock_Now _ 0 (satAdd a b) _ (by simp)).mono ?_
  rintro e w' ⟨rfl, rfl⟩
  go_wp2_with fail
  refine (clock_Now _ 0 (satAdd a b) _ (by simp)).mono ?_
  rintro e w' ⟨rfl, rfl⟩
  go_wp2
  go_ret
  exact ⟨by simp, (by repeat (first | assumption | apply bel_alloc | apply bel_drewN | apply bel_drew | exact bel_refl _))⟩

theorem clockGoes (A : Option Addr) (c : Nat) (l : List Int) (b at_ : Int) (w : World) (hr : Rd w A (l.map (.int .i64))) (hl : ∀ x ∈ l, (Lit.int .i64 x).wf = true) (hn : l.length ≤ maxLen)
    (hb : (Lit.int .i64 b).wf = true) (ha : (Lit.int .i64 at_).wf = true) :
    Calls Try.prog 6 #[.slice A l.length c, .int .i64 b, .int .i64 at_] w fun e w' => e = .returned (.bool true) ∧ Below w.heap.size w w' := by
  have ha' := I64.of_wf ha
  have hb' := I64.of_wf hb
  have HL := hid' hl
  have hn' : l.length ≤ 9223372036854775807 := hn
  clear ha hb hl hn
  go_enter Try.func6, Try.ntmps6
  go_wp2_with fail
  refine (law14_speaks w).mono ?_
  rintro e w1 ⟨rfl, hB⟩
  have HR := hid' (hr.below hB)
  clear hr
  by_cases h1 : 200 < l.length
  · go_wp2
    all_goals (go_ret; exact ⟨rfl, hB⟩)
  go_wp2
  have HB := hid' hB
  clear hB
  go_loopw [8, 18] (fun v8 v18 wr => ∃ (k : Nat) (now : Int), k ≤ l.length ∧ v18 = .int .i64 k ∧ v8 = .int .i64 now ∧ Blk wr w1.heap.size 32 #[.int .i64 now] ∧ Below w1.heap.size w1 wr ∧ I64 now) (fun _ v18 _ => l.length - (intOf v18).toNat)
  case atStart => exact ⟨0, 0, Nat.zero_le _, rfl, rfl, Blk.new_ _ _ _, (by repeat (first | assumption | apply bel_alloc | apply bel_drewN | apply bel_drew | exact bel_refl _)), (by unfold I64 at *; omega)⟩
  case round =>
    obtain ⟨k, now, hk, rfl, rfl, hbk, hbw, hnow⟩ := hrel
    have hc : wr.cell? ⟨w1.heap.size, 0, none⟩ = some (.int .i64 now) := by simpa using hbk.cell 0
    have hf := hbk.frozen 0
    by_cases hlt : k < l.length
    · obtain ⟨ad, x, rfl, hx, hcx⟩ := Rd.at_ (HR.out.below hbw) hlt
      have hxi := I64.of_wf (HL.out x (mem_of_get hx))
      clear hx
      have hgo := I64.clockGo (by_ := x) hnow
      clear HL HR h1
      by_cases hx0 : x < 0
      · have H0 := hid' (show clockGo now x = now by unfold clockGo; rw [if_pos hx0])
        go_wp2_with fail
        refine (clock_Go _ 0 now x _ hc hf hnow hxi).mono ?_
        rintro e w' ⟨rfl, rfl⟩
        rw [H0.out, setCell_self hc]
        go_wp2_with fail
        refine (clock_Now _ 0 now _ hc).mono ?_
        rintro e w' ⟨rfl, rfl⟩
        go_wp2_with fail
        refine (clock_Until _ 0 now b _ hc hnow hb').mono ?_
        rintro e w' ⟨rfl, rfl⟩
        go_wp2_with fail
        refine (ref_Add now (max b 0) _ hnow (by unfold I64 at *; omega)).mono ?_
        rintro e w' ⟨rfl, rfl⟩
        go_wp2_with fail
        refine (clock_Past _ 0 now at_ _ hc).mono ?_
        rintro e w' ⟨rfl, rfl⟩
        go_wp2_with fail
        refine (clock_Past _ 0 now now _ hc).mono ?_
        rintro e w' ⟨rfl, rfl⟩
        go_wp2
        go_roundw
        case rel => exact ⟨k + 1, now, by omega, by go_num, rfl, hbk, hbw, hnow⟩
        case measure => simp [intOf]; omega
      · have H0 := hid' (show clockGo now x = satAdd now x by unfold clockGo; rw [if_neg hx0])
        have hgi := I64.satAdd now x
        go_wp2_with fail
        refine (clock_Go _ 0 now x _ hc hf hnow hxi).mono ?_
        rintro e w' ⟨rfl, rfl⟩
        rw [H0.out]
        have hbk' := hbk.set 0 (.int .i64 (satAdd now x))
        have hc' : (wr.setCell ⟨w1.heap.size, 0, none⟩ (.int .i64 (satAdd now x))).cell? ⟨w1.heap.size, 0, none⟩ = some (.int .i64 (satAdd now x)) := by simpa using hbk'.cell 0
        have hbw' := bel_set hbw (p := ⟨w1.heap.size, 0, none⟩) (Nat.le_refl _) (.int .i64 (satAdd now x))
        generalize wr.setCell ⟨w1.heap.size, 0, none⟩ (.int .i64 (satAdd now x)) = wq at hbk' hc' hbw' ⊢
        clear hc hf hbk hbw
        go_wp2_with fail
        refine (ref_Add now x _ hnow hxi).mono ?_
        rintro e w' ⟨rfl, rfl⟩
        go_wp2_with fail
        refine (clock_Now _ 0 (satAdd now x) _ hc').mono ?_
        rintro e w' ⟨rfl, rfl⟩
        go_wp2_with fail
        refine (clock_Until _ 0 (satAdd now x) b _ hc' hgi hb').mono ?_
        rintro e w' ⟨rfl, rfl⟩
        go_wp2_with fail
        refine (ref_Add (satAdd now x) (max b 0) _ hgi (by unfold I64 at *; omega)).mono ?_
        rintro e w' ⟨rfl, rfl⟩
        go_wp2_with fail
        refine (clock_Past _ 0 (satAdd now x) at_ _ hc').mono ?_
        rintro e w' ⟨rfl, rfl⟩
        go_wp2_with fail
        refine (clock_Past _ 0 (satAdd now x) (satAdd now x) _ hc').mono ?_
        rintro e w' ⟨rfl, rfl⟩
        go_wp2
        go_roundw
        case rel => exact ⟨k + 1, satAdd now x, by omega, by go_num, rfl, by simpa using hbk', hbw', hgi⟩
        case measure => simp [intOf]; omega
    · go_wp2_with fail
      refine (clock_Now _ 0 now _ hc).mono ?_
      rintro e w' ⟨rfl, rfl⟩
      go_wp2
      go_ret
      exact ⟨by simp, bel_then HB.out hbw⟩
end Go.Proofs.Ytoajlogbdkinkaa
