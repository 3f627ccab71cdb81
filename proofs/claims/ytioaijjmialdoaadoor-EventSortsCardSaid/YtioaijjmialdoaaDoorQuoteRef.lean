
/- A text in marks as the document says (tidewaiterref04.hex, Quote), walked. No condition. -/
import Derived.Test.YtioaijjmialdoaaDoorQuoteW
namespace Go.Proofs.YtioaijjmialdoaaDoor
set_option maxRecDepth 100000
set_option linter.unusedSimpArgs false
open Go.RowKit
set_option linter.unusedVariables false
set_option linter.unusedSimpArgs false

theorem strOf_app (a b : List UInt8) : strOf a ++ strOf b = strOf (a ++ b) := by
  unfold strOf; apply ByteArray.ext; rw [ByteArray.data_append]; simp
set_option maxHeartbeats 2000000 in
theorem ref04_hex : ∀ (n : Nat) (w : World), n < 4294967296 →
    Calls Tryd.prog 33 #[.int .i64 (n : Int)] w fun e w' => e = .returned (.string (strOf (hexL n))) ∧ Below w.heap.size w w' := by
  intro n
  induction n using Nat.strongRecOn with
  | ind n ih =>
    intro w hn
    obtain ⟨d, hd⟩ : ∃ d, d = n % 16 := ⟨_, rfl⟩
    have hd16 : d < 16 := by omega
    have hrem : (n : Int).tmod 16 = (d : Int) := by rw [Int.tmod_eq_emod_of_nonneg (by omega)]; omega
    obtain ⟨c, hc⟩ : ∃ c, c = (hexD d).toNat := ⟨_, rfl⟩
    have hcn := hexD_nat hd16
    rw [← hc] at hcn
    have hconv := convQ_one w c (by split at hcn <;> omega)
    have hxs : strOf [UInt8.ofNat c] = strOf [hexD d] := by rw [hc]; simp
    rw [hxs] at hconv
    have HB0 := hid' (bel_alloc (bel_refl w) (.cells #[.int .u8 (c : Int)] 5))
    clear hc hxs
    obtain ⟨st, hst⟩ : ∃ st, st = strOf (hexL n) := ⟨_, rfl⟩
    rw [← hst]
    by_cases h16 : n < 16
    · have hh : st = strOf [hexD d] := by rw [hst, hexL_lt h16, hd, Nat.mod_eq_of_lt h16]
      rw [← hh] at hconv
      clear hst hd hh ih
      by_cases h10 : d < 10
      · rw [if_pos h10] at hcn
        have hcc : (48 : Int) + (d : Int) = (c : Int) := by omega
        clear hcn
        go_enter Tryd.func33, Tryd.ntmps33
        go_wp2
        go_ret
        exact ⟨rfl, HB0.out⟩
      · rw [if_neg h10] at hcn
        have hcc : (97 : Int) + (d : Int) - 10 = (c : Int) := by omega
        clear hcn
        go_enter Tryd.func33, Tryd.ntmps33
        go_wp2
        go_ret
        exact ⟨rfl, HB0.out⟩
    · obtain ⟨m, hm⟩ : ∃ m, m = n / 16 := ⟨_, rfl⟩
      have hml := hexL_len 7 m (by omega)
      have hh : st = strOf (hexL m) ++ strOf [hexD d] := by rw [hst, hexL_ge h16, ← hd, ← hm, strOf_app]
      have hquo : (n : Int).tdiv 16 = (m : Int) := by rw [Int.tdiv_eq_ediv_of_nonneg (by omega)]; omega
      have hwm : wrap64 (m : Int) = (m : Int) := by unfold wrap64; omega
      have HI := hid' (fun W => ih m (by omega) W (by omega))
      have hsz : (strOf (hexL m)).size + (strOf [hexD d]).size ≤ 9223372036854775807 := by
        show (hexL m).length + 1 ≤ _
        omega
      rw [hh]
      clear hst hd hh ih hm hml
      generalize strOf [hexD d] = x at *
      generalize strOf (hexL m) = y at *
      by_cases h10 : d < 10
      · rw [if_pos h10] at hcn
        have hcc : (48 : Int) + (d : Int) = (c : Int) := by omega
        clear hcn
        go_enter Tryd.func33, Tryd.ntmps33
        go_wp2_with fail
        refine (HI.out _).mono ?_
        rintro e w2 ⟨rfl, hB⟩
        have HB := hid' (bel_then HB0.out hB)
        clear hB
        go_wp2
        go_ret
        refine ⟨?_, HB.out⟩
        go_simp
      · rw [if_neg h10] at hcn
        have hcc : (97 : Int) + (d : Int) - 10 = (c : Int) := by omega
        clear hcn
        go_enter Tryd.func33, Tryd.ntmps33
        go_wp2_with fail
        refine (HI.out _).mono ?_
        rintro e w2 ⟨rfl, hB⟩
        have HB := hid' (bel_then HB0.out hB)
        clear hB
        go_wp2
        go_ret
        refine ⟨?_, HB.out⟩
        go_simp
end Go.Proofs.YtioaijjmialdoaaDoor
