
/- What comes next does not hang on how often it is asked for: the law, walked. No condition. -/
import Derived.Test.YtjdjpljjahnhjaaLawCursor
namespace Go.Proofs.Ytjdjpljjahnhjaa
set_option maxRecDepth 100000
set_option linter.unusedSimpArgs false
open Go.RowKit
set_option linter.unusedVariables false
set_option linter.unusedSimpArgs false

theorem wf_u8c {a : Int} (h : (Lit.int .u8 a).wf = true) : 0 ≤ a ∧ a < 256 := by
  simp [Lit.wf, IntKind.min, IntKind.max, IntKind.signed, IntKind.bits] at h; omega
theorem cSt_cases (s : ByteArray) (at_ : Nat) : ((cLook s at_).2.2 ≠ 0 ∧ cSt s at_ = 2) ∨ ((cLook s at_).2.2 = 0 ∧ cSt s at_ = 1) ∨ ((cLook s at_).2.2 = 0 ∧ cSt s at_ = 0) := by
  unfold cSt
  by_cases h : (cLook s at_).2.2 ≠ 0
  · exact .inl ⟨h, if_pos h⟩
  · rw [if_neg h]
    have h0 : (cLook s at_).2.2 = 0 := by omega
    by_cases h1 : at_ = s.size
    · exact .inr (.inl ⟨h0, if_pos h1⟩)
    · exact .inr (.inr ⟨h0, if_neg h1⟩)
theorem cSt_zero (s : ByteArray) : ((cSt s 0 == 1) == s.toList.isEmpty) = true := by
  have hl : s.toList.length = s.size := by rw [ByteArray.toList_eq]; exact bl_len s
  by_cases hz : s.size = 0
  · have h1 : cSt s 0 = 1 := by
      have := cSt_end s
      rwa [hz] at this
    have h2 : s.toList = [] := List.eq_nil_of_length_eq_zero (by omega)
    rw [h1, h2]; rfl
  · have h1 : (cSt s 0 == 1) = false := by
      rw [beq_eq_false_iff_ne]
      unfold cSt
      split
      · decide
      · rw [if_neg (by omega)]; decide
    have h2 : s.toList.isEmpty = false := by
      cases h : s.toList with
      | nil => rw [h] at hl; simp at hl; omega
      | cons a b => rfl
    rw [h1, h2]; rfl
set_option maxHeartbeats 4000000 in
theorem cursorKnows (s : ByteArray) (st : Int) (w : World) (hs : s.size ≤ maxLen) (hst : (Lit.int .u8 st).wf = true) :
    Calls Try.prog 11 #[.string s, .int .u8 st] w fun e w' => e = .returned (.bool true) ∧ Below w.heap.size w w' := by
  have hs' : s.size ≤ 9223372036854775807 := hs
  obtain ⟨hd0, hd1⟩ := wf_u8c hst
  clear hst hs
  by_cases hbig : 1000 < s.size
  · go_enter Try.func11, Try.ntmps11
    go_wp2_with (go_at_call 36; refine (speaks21 _).mono ?_; rintro e w1 ⟨rfl, hB1⟩)
    go_ret
    exact ⟨rfl, hB1⟩
  obtain ⟨N, hN⟩ : ∃ N : Nat, st % 20 = (N : Int) := ⟨(st % 20).toNat, by omega⟩
  have hNb : N < 20 := by omega
  go_enter Try.func11, Try.ntmps11
  go_wp2_with (go_at_call 36; refine (speaks21 _).mono ?_; rintro e w1 ⟨rfl, hB1⟩)
  refine (cursor_New s _ (by omega)).mono ?_
  rintro e w2 ⟨a, rfl, ha0, ha1, hA, hB2⟩
  go_wp2_with fail
  refine (cursor_New s _ (by omega)).mono ?_
  rintro e w3 ⟨b, rfl, hb0, hb1, hB, hB3⟩
  have hab : a ≠ b := by omega
  have haw : w.heap.size ≤ a := by have := hB1.size; omega
  have HL := hid' (bel_then (bel_then hB1 hB2) hB3)
  have HA := hid' (hA.below hB3)
  have HB := hid' hB
  clear hB1 hB2 hB3 hA hB ha0 ha1 hb0 hb1
  go_wp2
  rw [hN]
  go_loopw [23] (fun v23 wr => ∃ i at_ cnt : Nat, i ≤ N ∧ v23 = .int .i64 i ∧ cnt ≤ i ∧ CurI wr a s at_ cnt ∧ CurI wr b s 0 0 ∧ Below w.heap.size w wr) (fun v23 _ => N - (intOf v23).toNat)
  case atStart => exact ⟨0, 0, 0, by omega, rfl, by omega, HA.out, HB.out, HL.out⟩
  case round =>
    obtain ⟨i, at_, cnt, hi, rfl, hcnt, hA, hB, hL⟩ := hrel
    by_cases hlt : i < N
    · obtain ⟨er, hee⟩ : ∃ er, er = (cLook s at_).2.2 := ⟨_, rfl⟩
      have e0 : (er != er) = false := by simp
      have hcs := cSt_cases s at_
      rw [← hee] at hcs
      rcases hcs with ⟨he, hc⟩ | ⟨he, hc⟩ | ⟨he, hc⟩
      · have e1 : (er != 0) = true := by simpa using he
        have hne : cSt s at_ ≠ 0 := by omega
        have HNE := hid' hne
        clear he hne
        have HAa := hid' (fun W (hb : Below wr.heap.size wr W) => cursor_Ahead a s at_ cnt W (hA.below hb) (by omega))
        have HEa := hid' (fun W (hb : Below wr.heap.size wr W) => cursor_Err a s at_ cnt W (hA.below hb))
        rw [hc] at HAa
        rw [← hee] at HEa
        clear hee
        have HA := hid' hA
        have HB := hid' hB
        have HL := hid' hL
        clear hA hB hL hc
        go_wp2_with fail
        refine (HAa.out _ (bel_refl _)).mono ?_
        rintro e w1 ⟨rfl, hB1⟩
        go_wp2_with fail
        refine (HAa.out _ hB1).mono ?_
        rintro e w2 ⟨rfl, hB2⟩
        have hb2 := bel_then hB1 hB2
        clear hB1 hB2
        go_wp2_with (go_at_call 39; refine (HEa.out _ hb2).mono ?_; rintro e w' ⟨rfl, rfl⟩)
        (refine (cursor_NextNo a s at_ cnt w2 (HA.out.below hb2) (by omega) HNE.out).mono ?_)
        rintro e w3 ⟨rfl, hB3⟩
        have hb3 := bel_alloc (bel_then hb2 hB3) (.cells #[.int .i64 0, .int .i64 0, .string ⟨#[]⟩] 37)
        go_wp2
        go_roundw
        case rel => exact ⟨i + 1, at_, cnt, by omega, by go_num, by omega, HA.out.below hb3, HB.out.below hb3, bel_then HL.out hb3⟩
        case measure => first | (simp [intOf]; done) | (simp [intOf]; omega)
      · subst he
        have hne : cSt s at_ ≠ 0 := by omega
        have HNE := hid' hne
        clear hne e0
        have HAa := hid' (fun W (hb : Below wr.heap.size wr W) => cursor_Ahead a s at_ cnt W (hA.below hb) (by omega))
        have HEa := hid' (fun W (hb : Below wr.heap.size wr W) => cursor_Err a s at_ cnt W (hA.below hb))
        rw [hc] at HAa
        rw [← hee] at HEa
        clear hee
        have HA := hid' hA
        have HB := hid' hB
        have HL := hid' hL
        clear hA hB hL hc
        go_wp2_with fail
        refine (HAa.out _ (bel_refl _)).mono ?_
        rintro e w1 ⟨rfl, hB1⟩
        go_wp2_with fail
        refine (HAa.out _ hB1).mono ?_
        rintro e w2 ⟨rfl, hB2⟩
        have hb2 := bel_then hB1 hB2
        clear hB1 hB2
        go_wp2_with (go_at_call 39; refine (HEa.out _ hb2).mono ?_; rintro e w' ⟨rfl, rfl⟩)
        (refine (cursor_NextNo a s at_ cnt w2 (HA.out.below hb2) (by omega) HNE.out).mono ?_)
        rintro e w3 ⟨rfl, hB3⟩
        have hb3 := bel_alloc (bel_then hb2 hB3) (.cells #[.int .i64 0, .int .i64 0, .string ⟨#[]⟩] 37)
        go_wp2
        go_roundw
        case rel => exact ⟨i + 1, at_, cnt, by omega, by go_num, by omega, HA.out.below hb3, HB.out.below hb3, bel_then HL.out hb3⟩
        case measure => first | (simp [intOf]; done) | (simp [intOf]; omega)
      · subst he
        obtain ⟨-, r, n, hq, hn⟩ := cSt0 hA.2 hc (by omega)
        have HQ := hid' hq
        have HS0 := hid' hc
        clear hq e0
        have HAa := hid' (fun W (hb : Below wr.heap.size wr W) => cursor_Ahead a s at_ cnt W (hA.below hb) (by omega))
        have HEa := hid' (fun W (hb : Below wr.heap.size wr W) => cursor_Err a s at_ cnt W (hA.below hb))
        rw [hc] at HAa
        rw [← hee] at HEa
        clear hee
        have HA := hid' hA
        have HB := hid' hB
        have HL := hid' hL
        clear hA hB hL hc
        go_wp2_with fail
        refine (HAa.out _ (bel_refl _)).mono ?_
        rintro e w1 ⟨rfl, hB1⟩
        go_wp2_with fail
        refine (HAa.out _ hB1).mono ?_
        rintro e w2 ⟨rfl, hB2⟩
        have hb2 := bel_then hB1 hB2
        clear hB1 hB2
        go_wp2_with (go_at_call 39; refine (HEa.out _ hb2).mono ?_; rintro e w' ⟨rfl, rfl⟩)
        (refine (cursor_NextYes a s at_ cnt n r w2 (HA.out.below hb2) (by omega) HS0.out HQ.out hn (by omega)).mono ?_)
        rintro e w3 ⟨rfl, hA3, hM3⟩
        have hbb := bel_alloc (bel_refl w3) (.cells #[.int .i64 r.1, .int .i64 r.2.1, .string r.2.2] 37)
        have HA3 := hid' (hA3.below hbb)
        have HB3 := hid' (((HB.out.below hb2).mod hM3 (fun h => hab h.symm)).below hbb)
        have HL3 := hid' (bel_then (bel_mod (bel_then HL.out hb2) hM3 (fun i hi h => by omega)) hbb)
        clear hA3 hM3 hbb
        go_wp2
        go_roundw
        case rel => exact ⟨i + 1, at_ + n, cnt + 1, by omega, by go_num, by omega, HA3.out, HB3.out, HL3.out⟩
        case measure => first | (simp [intOf]; done) | (simp [intOf]; omega)
    · have HA := hid' hA
      have HB := hid' hB
      have HL := hid' hL
      clear hA hB hL
      go_wp2_with (first
        | (go_at_call 40; refine (cursor_At b s 0 0 _ HB.out).mono ?_; rintro e w' ⟨rfl, rfl⟩)
        | (go_at_call 41; refine (cursor_Count b s 0 0 _ HB.out).mono ?_; rintro e w' ⟨rfl, rfl⟩)
        | (go_at_call 38; refine (cursor_Ahead b s 0 0 _ HB.out (by omega)).mono ?_; rintro e w4 ⟨rfl, hB4⟩))
      go_ret
      refine ⟨?_, bel_then HL.out hB4⟩
      refine (ret_bool ?_).trans rfl
      exact cSt_zero s
end Go.Proofs.Ytjdjpljjahnhjaa
