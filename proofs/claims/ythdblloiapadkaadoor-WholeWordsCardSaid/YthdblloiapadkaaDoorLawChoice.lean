
/- The laws of choices, walked. No condition but the tables and variables of Go's own library. -/
import Derived.Test.YthdblloiapadkaaDoorChoiceB
import Derived.Test.YthdblloiapadkaaDoorOpen
namespace Go.Proofs.YthdblloiapadkaaDoor
set_option maxRecDepth 100000
set_option linter.unusedSimpArgs false
open Go.RowKit
set_option linter.unusedVariables false
set_option linter.unusedSimpArgs false

set_option maxHeartbeats 8000000 in
theorem speaks20 (w : World) (hP : PowT w) (hE : ErV w) (hM : MaxT w) : Calls Tryd.prog 24 #[] w fun e w' => e = .returned (.bool true) ∧ Below w.heap.size w w' := by
  have h5 : lineL true 5 = [116, 105, 99, 107, 32, 53] := by unfold lineL; rw [if_pos rfl, show (5 : Int) = ((5 : Nat) : Int) from rfl, itoa_pos_small (by decide)]; rfl
  have hr : readP (bL ⟨#[116, 105, 99, 107, 32, 53]⟩) = some (true, 5) := by
    have := readP_line true (n := 5) (by unfold I64; decide)
    rw [h5] at this
    exact this
  have h1 : lineS false (-1) = ⟨#[112, 111, 108, 108, 32, 45, 49]⟩ := by
    unfold lineS lineL
    rw [show (-1 : Int) = -((1 : Nat) : Int) from rfl, itoa_neg_small (by decide) (by decide)]; rfl
  have HR := hid' (choice_Read ⟨#[116, 105, 99, 107, 32, 53]⟩ w (by decide) hP hE hM)
  rw [hr, show chO (some (true, 5)) = .agg #[.bool true, .int .i64 5] from rfl, show (some (true, (5 : Int))).isSome = true from rfl] at HR
  have HL := hid' (fun W (hB : Below w.heap.size w W) => choice_Line false (-1) W (by unfold I64; decide) (hP.below hB))
  rw [h1] at HL
  clear hP hE hM h5 hr h1
  go_enter Tryd.func24, Tryd.ntmps24
  go_wp2_with fail
  refine HR.out.mono ?_
  rintro e w1 ⟨rfl, hB1⟩
  go_wp2_with fail
  have hB2 := bel_alloc hB1 (.cells #[.bool true, .int .i64 5] 32)
  refine (choice_Poll (-1) _).mono ?_
  rintro e w3 ⟨rfl, hB3⟩
  have hL3 := bel_then hB2 hB3
  go_wp2_with fail
  refine (HL.out w3 hL3).mono ?_
  rintro e w4 ⟨rfl, hB4⟩
  have hL4 := bel_then hL3 hB4
  go_wp2_with fail
  refine (choice_Round 2 3 w4 (by decide) (by decide)).mono ?_
  rintro e w5 ⟨v, rfl, hown, hB5⟩
  obtain ⟨A, c, rfl, _, _, _⟩ := own_rd hown
  have hL5 := bel_then hL4 hB5
  go_wp2
  go_ret
  exact ⟨rfl, hL5⟩
set_option maxHeartbeats 8000000 in
theorem choiceReads (s : ByteArray) (w : World) (hq : s.size ≤ maxLen) (hP : PowT w) (hE : ErV w) (hM : MaxT w) :
    Calls Tryd.prog 6 #[.string s] w fun e w' => e = .returned (.bool true) ∧ Below w.heap.size w w' := by
  have HS := hid' (speaks20 w hP hE hM)
  have hqm : s.size ≤ 9223372036854775807 := by unfold maxLen at hq; omega
  by_cases hbig : 200 < s.size
  · have hb1 : (200 : Int) < (s.size : Int) := by omega
    clear hP hE hM
    go_enter Tryd.func6, Tryd.ntmps6
    go_wp2_with fail
    refine HS.out.mono ?_
    rintro e w1 ⟨rfl, hB1⟩
    go_wp2
    go_ret
    exact ⟨rfl, hB1⟩
  · have hb1 : (s.size : Int) ≤ 200 := by omega
    have HR := hid' (fun W (hB : Below w.heap.size w W) => choice_Read s W (by omega) (hP.below hB) (hE.below hB) (hM.below hB))
    clear hP hE hM
    cases ho : readP (bL s) with
    | none =>
      rw [ho, show chO none = .agg #[.bool false, .int .i64 0] from rfl, show (none : Option (Bool × Int)).isSome = false from rfl] at HR
      clear ho
      go_enter Tryd.func6, Tryd.ntmps6
      go_wp2_with fail
      refine HS.out.mono ?_
      rintro e w1 ⟨rfl, hB1⟩
      go_wp2_with fail
      refine (HR.out w1 hB1).mono ?_
      rintro e w2 ⟨rfl, hB2⟩
      have hL2 := bel_alloc (bel_then hB1 hB2) (.cells #[.bool false, .int .i64 0] 32)
      go_wp2
      go_ret
      exact ⟨rfl, hL2⟩
    | some x =>
      obtain ⟨t, n⟩ := x
      obtain ⟨h1, h2⟩ := readP_some ho
      have hls : lineS t n = s := by unfold lineS; rw [h1]; exact bL_inj (bL_str _)
      have HL := hid' (fun W => law20_line t n W h2)
      rw [hls] at HL
      rw [ho, show chO (some (t, n)) = .agg #[.bool t, .int .i64 n] from rfl, show (some (t, n)).isSome = true from rfl] at HR
      clear ho h1 hls
      go_enter Tryd.func6, Tryd.ntmps6
      go_wp2_with fail
      refine HS.out.mono ?_
      rintro e w1 ⟨rfl, hB1⟩
      go_wp2_with fail
      refine (HR.out w1 hB1).mono ?_
      rintro e w2 ⟨rfl, hB2⟩
      have hL2 := bel_alloc (bel_then hB1 hB2) (.cells #[.bool t, .int .i64 n] 32)
      go_wp2_with fail
      refine (HL.out _).mono ?_
      rintro e w3 ⟨rfl, hB3⟩
      go_wp2
      go_ret
      exact ⟨rfl, bel_then hL2 hB3⟩
end Go.Proofs.YthdblloiapadkaaDoor
