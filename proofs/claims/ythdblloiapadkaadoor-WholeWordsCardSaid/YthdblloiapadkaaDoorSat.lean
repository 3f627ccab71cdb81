
/- What the functions of sat and of its reference answer. No condition. -/
import Derived.Test.YthdblloiapadkaaDoorProg
import Derived.Test.YthdblloiapadkaaDoorLib
import Derived.WalkSpells
import Derived.WalkLawsBesides
import Derived.Deep.QuietTactic
import Derived.BigQuiet
import Derived.Deep.DeepCutAuto
import Derived.Deep.CutBlock
import Derived.Deep.LoopGhost
import Derived.Deep.RegionHeld3
namespace Go.Proofs.YthdblloiapadkaaDoor
set_option maxRecDepth 100000
set_option linter.unusedSimpArgs false
open Go.RowKit
set_option linter.unusedVariables false

theorem ref_Add (a b : Int) (w : World) (ha : I64 a) (hb : I64 b) :
    Calls Tryd.prog 29 #[.int .i64 a, .int .i64 b] w fun e w' => e = .returned (.int .i64 (satAdd a b)) ∧ w = w' := by
  obtain ⟨ha1, ha2⟩ := ha
  obtain ⟨hb1, hb2⟩ := hb
  go_enter Tryd.func29, Tryd.ntmps29
  go_wp2
  all_goals (go_ret; exact ⟨ret_int (by unfold satAdd; (try unfold wrap64 at *); split <;> (try split) <;> omega), rfl⟩)
theorem foldl_I64 (xs : List Int) : ∀ a, I64 a → I64 (xs.foldl satAdd a) := by
  induction xs with
  | nil => intro a h; exact h
  | cons x xs ih => intro a h; exact ih _ (I64.satAdd _ _)
/-- Two rows of whole numbers held against each other. -/
theorem ref_Same (A B : Option Addr) (c d : Nat) (xs ys : List Int) (w : World) (h : Rd w A (xs.map (.int .i64))) (h' : Rd w B (ys.map (.int .i64))) (hn : xs.length ≤ 9223372036854775807) (hm : ys.length ≤ 9223372036854775807) :
    Calls Tryd.prog 20 #[.slice A xs.length c, .slice B ys.length d] w fun e w' => e = .returned (.bool (decide (xs = ys))) ∧ Dr w w' := by
  have H := hid' h
  have H' := hid' h'
  clear h h'
  by_cases hl : xs.length = ys.length
  · have HL := hid' hl
    have hb : ((xs.length : Int) == (ys.length : Int)) = true := by rw [beq_iff_eq]; omega
    have hb2 : (xs.length == ys.length) = true := by rw [beq_iff_eq]; omega
    have hb3 : ((xs.length : Int) != (ys.length : Int)) = false := by rw [bne_eq_false_iff_eq]; omega
    clear hl
    go_enter Tryd.func20, Tryd.ntmps20
    go_wp2
    go_loopw [5] (fun i wr => ∃ k m : Nat, k ≤ xs.length ∧ i = .int .i64 k ∧ wr = w.drewN m ∧ Hid (xs.take k = ys.take k)) (fun i _ => xs.length - (intOf i).toNat)
    case atStart => exact ⟨0, 0, Nat.zero_le _, rfl, rfl, rfl⟩
    case round =>
      obtain ⟨k, m, hk, rfl, rfl, HE⟩ := hrel
      by_cases hlt : k < xs.length
      · obtain ⟨ad, x, rfl, hx, hc⟩ := Rd.at_ H.out hlt
        obtain ⟨ad', y, rfl, hy, hc'⟩ := Rd.at_ H'.out (j := k) (by rw [← HL.out]; exact hlt)
        have HX := hid' hx
        have HY := hid' hy
        have hlt' : k < ys.length := by have := HL.out; omega
        clear hx hy
        by_cases hxy : x = y
        · subst hxy
          have HE' : Hid (xs.take (k + 1) = ys.take (k + 1)) := by
            rw [take_snoc' HX.out, take_snoc' HY.out, HE.out]; rfl
          clear hb hb2 hb3
          go_wp2
          go_quiet (fail)
          go_wp2
          go_roundw
          case rel => exact ⟨k + 1, _, by omega, by go_num, rfl, HE'⟩
          case measure => simp [intOf]; omega
        · have hne : (x != y) = true := by rw [bne_iff_ne]; exact hxy
          have hd : decide (xs = ys) = false := by
            rw [decide_eq_false_iff_not]; intro e
            have h1 := HX.out; have h2 := HY.out
            rw [e, h2] at h1; exact hxy (Option.some.inj h1).symm
          have HD := hid' hd
          clear hb hb2 hb3 hxy hd
          go_wp2
          go_quiet (fail)
          go_wp2
          go_ret
          exact ⟨ret_bool HD.out.symm, (by repeat (first | exact Dr.refl _ | apply Dr.step | apply Dr.stepd))⟩
      · have hd : decide (xs = ys) = true := by
          rw [decide_eq_true_eq]
          have := HE.out
          rwa [List.take_of_length_le (by omega), List.take_of_length_le (by have := HL.out; omega)] at this
        have HD := hid' hd
        clear hb hb2 hb3 hd
        go_wp2
        go_ret
        exact ⟨ret_bool HD.out.symm, (by repeat (first | exact Dr.refl _ | apply Dr.step | apply Dr.stepd))⟩
  · have hb : ((xs.length : Int) == (ys.length : Int)) = false := by rw [beq_eq_false_iff_ne]; omega
    have hb2 : (xs.length == ys.length) = false := by rw [beq_eq_false_iff_ne]; omega
    have hb3 : ((xs.length : Int) != (ys.length : Int)) = true := by rw [bne_iff_ne]; omega
    have hd : decide (xs = ys) = false := by rw [decide_eq_false_iff_not]; rintro rfl; exact hl rfl
    have HD := hid' hd
    clear hl hd
    go_enter Tryd.func20, Tryd.ntmps20
    go_wp2
    go_ret
    exact ⟨ret_bool HD.out.symm, (by repeat (first | exact Dr.refl _ | apply Dr.step | apply Dr.stepd))⟩

theorem ref_Same' (A B : Option Addr) (c d n m : Nat) (xs ys : List Int) (w : World) (h : Rd w A (xs.map (.int .i64))) (h' : Rd w B (ys.map (.int .i64))) (hx : xs.length = n) (hy : ys.length = m) (hn : n ≤ 9223372036854775807) (hm : m ≤ 9223372036854775807) :
    Calls Tryd.prog 20 #[.slice A n c, .slice B m d] w fun e w' => e = .returned (.bool (decide (xs = ys))) ∧ Dr w w' := by
  subst hx hy
  exact ref_Same A B c d xs ys w h h' hn hm

end Go.Proofs.YthdblloiapadkaaDoor
