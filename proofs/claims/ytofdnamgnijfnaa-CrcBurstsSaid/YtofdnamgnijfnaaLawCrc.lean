
/- The laws of layer 3 (crc), walked: the sums, and what is opened. No condition. -/
import Derived.Test.YtofdnamgnijfnaaCrcRefC
namespace Go.Proofs.Ytofdnamgnijfnaa
open Go.RowKit
set_option linter.unusedVariables false
set_option linter.unusedSimpArgs false

def lit19 : ByteArray := { data := #[49, 50, 51, 52, 53, 54, 55, 56, 57] }
theorem crc_lit19 : crcStr lit19 = 3421780262 := by kernel_rfl
theorem seal_lit0 : cseal { data := #[] } = { data := #[0, 0, 0, 0] } := by kernel_rfl
theorem law03_speaks (w : World) : Calls Try.prog 15 #[] w fun e w' => e = .returned (.bool true) ∧ Below w.heap.size w w' := by
  go_enter Try.func15, Try.ntmps15
  go_wp2_with fail
  refine (crc_New w).mono ?_
  rintro e w1 ⟨g, rfl, hg, hB1, hb1⟩
  have HB1 := hid' hB1
  clear hB1
  go_wp2_with fail
  refine (crc_Sum g lit19 w1 (by decide) HB1.out).mono ?_
  rintro e w2 ⟨rfl, hd2⟩
  rw [crc_lit19]
  go_wp2_with fail
  refine (crc_Seal g { data := #[] } w2 (by decide) (HB1.out.below hd2.below)).mono ?_
  rintro e w3 ⟨rfl, hb3⟩
  rw [seal_lit0]
  go_wp2
  go_ret
  exact ⟨by simp, bel_then (bel_then hb1 hd2.below) hb3⟩

theorem cseal_size (s : ByteArray) : (cseal s).size = s.size + 4 := by
  unfold cseal
  rw [ByteArray.size_append]
  rfl
theorem cseal_cut (s : ByteArray) : (cseal s).extract 0 ((cseal s).size - 4) = s := by
  rw [cseal_size]
  apply ByteArray.ext
  rw [ByteArray.data_extract]
  unfold cseal
  rw [ByteArray.data_append]
  apply Array.ext'
  rw [Array.toList_extract]
  have hl : s.data.toList.length = s.size := by rw [Array.length_toList]; rfl
  simp [List.extract_eq_take_drop]
theorem copen_seal (s : ByteArray) : copen (cseal s) = some s := by
  unfold copen
  rw [if_neg (by rw [cseal_size]; omega), cseal_cut, if_pos rfl]

theorem crcSums (s : ByteArray) (w : World) (hs : s.size ≤ maxLen) :
    Calls Try.prog 3 #[.string s] w fun e w' => e = .returned (.bool true) ∧ Below w.heap.size w w' := by
  have h1 : copS (cseal s) = .string s := by unfold copS; rw [copen_seal]
  have h2 : copB (cseal s) = true := by unfold copB; rw [copen_seal]; rfl
  have H1 := hid' h1
  have H2 := hid' h2
  clear h1 h2
  go_enter Try.func3, Try.ntmps3
  go_wp2_with fail
  refine (law03_speaks w).mono ?_
  rintro e w1 ⟨rfl, hb1⟩
  by_cases hlen : s.size ≤ 300
  · go_wp2_with fail
    refine (crc_New w1).mono ?_
    rintro e w2 ⟨g, rfl, hg, hB2, hb2⟩
    have HB2 := hid' hB2
    clear hB2
    go_wp2_with fail
    refine (crc_Seal g s w2 (by omega) HB2.out).mono ?_
    rintro e w3 ⟨rfl, hb3⟩
    have HB3 := hid' (HB2.out.below hb3)
    go_wp2_with fail
    refine (crc_Open g (cseal s) w3 (by rw [cseal_size]; omega) HB3.out).mono ?_
    rintro e w4 ⟨rfl, hb4⟩
    rw [H1.out, H2.out]
    have HB4 := hid' (HB3.out.below hb4)
    go_wp2_with fail
    refine (crc_Sum g s w4 (by unfold maxLen; omega) HB4.out).mono ?_
    rintro e w5 ⟨rfl, hd5⟩
    go_wp2_with fail
    refine (ref03_Sum s w5 (by omega)).mono ?_
    rintro e w6 ⟨rfl, hb6⟩
    go_wp2_with fail
    refine (ref03_Seal s w6 (by omega)).mono ?_
    rintro e w7 ⟨rfl, hb7⟩
    have HB := hid' (bel_then (bel_then (bel_then (bel_then (bel_then (bel_then hb1 hb2) hb3) hb4) hd5.below) hb6) hb7)
    clear hb1 hb2 hb3 hb4 hd5 hb6 hb7
    go_wp2
    go_ret
    exact ⟨by simp, HB.out⟩
  · go_wp2
    go_ret
    exact ⟨rfl, hb1⟩
end Go.Proofs.Ytofdnamgnijfnaa
