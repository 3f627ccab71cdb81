/- Of any bytes whether they are sealed, walked. No condition. -/
import Derived.Test.YtofdnamgnijfnaaLawCrc
namespace Go.Proofs.Ytofdnamgnijfnaa
open Go.RowKit
set_option linter.unusedVariables false
set_option linter.unusedSimpArgs false

theorem crcOpens (s : ByteArray) (w : World) (hs : s.size ≤ maxLen) :
    Calls Try.prog 4 #[.string s] w fun e w' => e = .returned (.bool true) ∧ Below w.heap.size w w' := by
  go_enter Try.func4, Try.ntmps4
  go_wp2_with fail
  refine (law03_speaks w).mono ?_
  rintro e w1 ⟨rfl, hb1⟩
  by_cases hlen : s.size ≤ 300
  · go_wp2_with fail
    refine (crc_New w1).mono ?_
    rintro e w2 ⟨g, rfl, hg, hB2, hb2⟩
    have HB2 := hid' hB2
    clear hB2
    go_wp2_with fail
    refine (crc_Open g s w2 (by omega) HB2.out).mono ?_
    rintro e w3 ⟨rfl, hb3⟩
    by_cases h4 : s.size < 4
    · have h1 : copS s = .string ⟨#[]⟩ := by unfold copS copen; rw [if_pos h4]
      have h2 : copB s = false := by unfold copB copen; rw [if_pos h4]; rfl
      rw [h1, h2]
      have HB := hid' (bel_then (bel_then hb1 hb2) hb3)
      clear hb1 hb2 hb3 h1 h2
      go_wp2
      go_ret
      exact ⟨by simp, HB.out⟩
    · have hz := extract_size s (s.size - 4) (by omega)
      by_cases he : cseal (s.extract 0 (s.size - 4)) = s
      · have h1 : copS s = .string (s.extract 0 (s.size - 4)) := by unfold copS copen; rw [if_neg h4, if_pos he]
        have h2 : copB s = true := by unfold copB copen; rw [if_neg h4, if_pos he]; rfl
        rw [h1, h2]
        have HE := hid' he
        clear he h1 h2
        go_wp2_with fail
        refine (ref03_Seal (s.extract 0 (s.size - 4)) w3 (by omega)).mono ?_
        rintro e w4 ⟨rfl, hb4⟩
        rw [HE.out]
        have HB := hid' (bel_then (bel_then (bel_then hb1 hb2) hb3) hb4)
        clear hb1 hb2 hb3 hb4
        go_wp2
        go_ret
        exact ⟨by simp, HB.out⟩
      · have h1 : copS s = .string ⟨#[]⟩ := by unfold copS copen; rw [if_neg h4, if_neg he]
        have h2 : copB s = false := by unfold copB copen; rw [if_neg h4, if_neg he]; rfl
        rw [h1, h2]
        have HE := hid' (show (cseal (s.extract 0 (s.size - 4))).toList ≠ s.toList from fun h => he (str_ext h))
        clear he h1 h2
        go_wp2_with fail
        refine (ref03_Seal (s.extract 0 (s.size - 4)) w3 (by omega)).mono ?_
        rintro e w4 ⟨rfl, hb4⟩
        have HB := hid' (bel_then (bel_then (bel_then hb1 hb2) hb3) hb4)
        clear hb1 hb2 hb3 hb4
        generalize cseal (s.extract 0 (s.size - 4)) = t at *
        have hne : (t.toList == s.toList) = false := by rw [beq_eq_false_iff_ne]; exact HE.out
        go_wp2
        go_ret
        exact ⟨by simp, HB.out⟩
  · go_wp2
    go_ret
    exact ⟨rfl, hb1⟩
end Go.Proofs.Ytofdnamgnijfnaa
