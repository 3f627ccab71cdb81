
/- The laws of the cursor, walked: what the package says of itself. No condition. -/
import Derived.Test.YtjdjpljjahnhjaaCursorB
import Derived.Test.YtjdjpljjahnhjaaLawFrame
import Derived.Test.YtjdjpljjahnhjaaOpen
namespace Go.Proofs.Ytjdjpljjahnhjaa
set_option maxRecDepth 100000
set_option linter.unusedSimpArgs false
open Go.RowKit
set_option linter.unusedVariables false
set_option linter.unusedSimpArgs false

theorem ext_all (s : ByteArray) : s.extract 0 s.size = s := bl_inj (by rw [bl_ext, List.drop_zero, Nat.sub_zero]; exact List.take_of_length_le (by rw [size_bl]; exact Nat.le_refl _))
theorem app_nil (s : ByteArray) : s ++ ⟨#[]⟩ = s := bl_inj (by rw [bl_app]; simp [bl])
theorem app_tail (a b : ByteArray) : (a ++ b).extract a.size (a ++ b).size = b := bl_inj (by
  rw [bl_ext, bl_app, size_app, size_bl a, List.drop_left]
  exact List.take_of_length_le (by rw [← size_bl]; omega))
theorem cLook_end (s : ByteArray) : cLook s s.size = (zR0, 0, 0) := by unfold cLook; rw [if_neg (by omega)]
theorem cSt_end (s : ByteArray) : cSt s s.size = 1 := by unfold cSt; rw [cLook_end]; simp
theorem CurI.alloc {w : World} {g : Nat} {s : ByteArray} {at_ cnt : Nat} (h : CurI w g s at_ cnt) (o : Obj) : CurI (w.alloc o) g s at_ cnt := h.below (bel_alloc (bel_refl w) o)
theorem sp21 : ∃ S : ByteArray, S.size ≤ 1000 ∧ (∀ w, Calls Try.prog 23 #[recV (1, 4, ⟨#[]⟩)] w fun e w' => e = .returned (.tuple #[.string S, .int .i64 0]) ∧ Below w.heap.size w w') ∧
    cLook S 0 = ((1, 4, ⟨#[]⟩), (S.size : Int), 0) ∧ cSt S 0 = 0 ∧ cLook (S ++ ⟨#[1]⟩) 0 = ((1, 4, ⟨#[]⟩), (S.size : Int), 0) ∧ cSt (S ++ ⟨#[1]⟩) 0 = 0 ∧ cSt (S ++ ⟨#[1]⟩) S.size = 2 ∧ (cLook (S ++ ⟨#[1]⟩) S.size).2.2 = 4 ∧ (S ++ ⟨#[1]⟩).size = S.size + 1 ∧ 0 < S.size := by
  have hI : I64 (1, 4, (⟨#[]⟩ : ByteArray)).2.1 := by show I64 4; unfold I64; decide
  have hv := vput10 (vfold 4) (vfold_lt hI)
  have hb : (recBody (1, 4, ⟨#[]⟩)).size = 1 + (vput (vfold 4)).length + 0 := by rw [recBody_size]; rfl
  have hc : fCheck (1, 4, ⟨#[]⟩) = 0 := by unfold fCheck; rw [if_pos (by rfl), if_neg (by omega)]
  have hf := fFull_size (1, 4, ⟨#[]⟩)
  have hv2 := vput10 (recBody (1, 4, ⟨#[]⟩)).size (by omega)
  have hg := fun m => fGet_full (r := (1, 4, ⟨#[]⟩)) hc hI m
  refine ⟨fFull (1, 4, ⟨#[]⟩), by omega, fun w => ?_, ?_⟩
  · have := frame_Encode (1, 4, ⟨#[]⟩) w hI (by show (0 : Nat) ≤ 200000; omega)
    rw [hc, show fEncS (1, 4, ⟨#[]⟩) = fFull (1, 4, ⟨#[]⟩) by unfold fEncS; rw [if_pos hc]] at this
    exact this
  generalize fFull (1, 4, ⟨#[]⟩) = S at *
  have h0 : 0 < S.size := by omega
  have h1 : (S ++ ⟨#[1]⟩).size = S.size + 1 := by rw [size_app]; rfl
  have q1 : cLook S 0 = ((1, 4, ⟨#[]⟩), (S.size : Int), 0) := by
    unfold cLook; rw [if_pos h0, ext_all]
    have := hg ⟨#[]⟩
    rwa [app_nil] at this
  have q3 : cLook (S ++ ⟨#[1]⟩) 0 = ((1, 4, ⟨#[]⟩), (S.size : Int), 0) := by
    unfold cLook; rw [if_pos (by omega), ext_all]; exact hg _
  have q4 : cLook (S ++ ⟨#[1]⟩) S.size = (zRec, 0, 4) := by
    unfold cLook; rw [if_pos (by omega), app_tail]; exact speaks5_get
  refine ⟨q1, ?_, q3, ?_, ?_, by rw [q4], h1, h0⟩
  · unfold cSt; rw [q1, if_neg (fun h => h rfl), if_neg (by omega)]
  · unfold cSt; rw [q3, if_neg (fun h => h rfl), if_neg (by omega)]
  · unfold cSt; rw [q4, if_pos (by decide)]
set_option maxHeartbeats 4000000 in
theorem speaks21 (w : World) : Calls Try.prog 36 #[] w fun e w' => e = .returned (.bool true) ∧ Below w.heap.size w w' := by
  obtain ⟨S, hs, HE, q1, s1, q3, s3, s4, q4, hT, h0⟩ := sp21
  have HE := hid' HE
  unfold recV at HE
  simp only at HE
  have hj : S.size + 1 ≤ 9223372036854775807 := by omega
  obtain ⟨T, hTT⟩ : ∃ T, T = S ++ ⟨#[1]⟩ := ⟨_, rfl⟩
  rw [← hTT] at q3 s3 s4 q4 hT
  have HTT := hid' hTT
  have Q1 := hid' q1
  have Q3 := hid' q3
  have Q4 := hid' q4
  have S1 := hid' s1
  have S3 := hid' s3
  have S4 := hid' s4
  clear hTT q1 q3 q4 s1 s3 s4
  go_enter Try.func36, Try.ntmps36
  go_wp2_with (go_at_call 23; refine (HE.out _).mono ?_; rintro e w1 ⟨rfl, hB1⟩)
  refine (cursor_New S _ (by omega)).mono ?_
  rintro e w2 ⟨c, rfl, hc0, hc1, hC, hB2⟩
  go_wp2_with fail
  rw [← HTT.out]
  refine (cursor_New T _ (by omega)).mono ?_
  rintro e w3 ⟨d, rfl, hd0, hd1, hD, hB3⟩
  have hcd : c ≠ d := by omega
  have hC3 := hC.below hB3
  go_wp2_with fail
  refine (cursor_Ahead c S 0 0 _ hC3 (by omega)).mono ?_
  rintro e w4 ⟨rfl, hB4⟩
  rw [S1.out]
  have hC4 := hC3.below hB4
  have hD4 := hD.below hB4
  go_wp2_with fail
  refine (cursor_NextYes c S 0 0 S.size _ _ hC4 (by omega) S1.out Q1.out (by omega) (by omega)).mono ?_
  rintro e w5 ⟨rfl, hC5, hM5⟩
  have hD5 := hD4.mod hM5 (fun h => hcd h.symm)
  go_wp2_with fail
  rw [Nat.zero_add, Nat.zero_add] at hC5
  have hcw := hC5.1.lt
  have hdw := hD5.1.lt
  have hbk := Blk.new_ w5 37 #[.int .i64 1, .int .i64 4, .string ⟨#[]⟩]
  have hC6 := hC5.alloc (.cells #[.int .i64 1, .int .i64 4, .string ⟨#[]⟩] 37)
  have hD6 := hD5.alloc (.cells #[.int .i64 1, .int .i64 4, .string ⟨#[]⟩] 37)
  have hL6 := bel_alloc (bel_mod (bel_then (bel_then (bel_then hB1 hB2) hB3) hB4) hM5 (fun i hi h => by have := hB1.size; omega)) (.cells #[.int .i64 1, .int .i64 4, .string ⟨#[]⟩] 37)
  generalize w5.alloc (.cells #[.int .i64 1, .int .i64 4, .string ⟨#[]⟩] 37) = w6 at *
  generalize w5.heap.size = b5 at *
  refine (cursor_NextYes d T 0 0 S.size _ _ hD6 (by omega) S3.out Q3.out (by omega) (by omega)).mono ?_
  rintro e w7 ⟨rfl, hD7, hM7⟩
  rw [Nat.zero_add, Nat.zero_add] at hD7
  have hC7 := hC6.mod hM7 hcd
  have hR7 := hbk.mod hM7 (fun h => by omega)
  have hL7 := bel_mod hL6 hM7 (fun i hi h => by have := hB1.size; have := hB2.size; omega)
  clear hC6 hD6 hbk hL6 hM7 hM5 hC5 hD5 hC4 hD4 hC3 hC hD
  have hC8 := hC7.alloc (.cells #[.int .i64 1, .int .i64 4, .string ⟨#[]⟩] 37)
  have hD8 := hD7.alloc (.cells #[.int .i64 1, .int .i64 4, .string ⟨#[]⟩] 37)
  have hR8 := hR7.alloc (.cells #[.int .i64 1, .int .i64 4, .string ⟨#[]⟩] 37)
  have hL8 := bel_alloc hL7 (.cells #[.int .i64 1, .int .i64 4, .string ⟨#[]⟩] 37)
  have r8 : (w7.alloc (.cells #[.int .i64 1, .int .i64 4, .string ⟨#[]⟩] 37)).cell? ⟨b5, 1, none⟩ = some (.int .i64 4) := by rw [hR8.cell]; rfl
  go_wp2_with fail
  refine (cursor_Ahead c S S.size 1 _ hC8 (by omega)).mono ?_
  rintro e w9 ⟨rfl, hB9⟩
  rw [cSt_end]
  have hC9 := hC8.below hB9
  have hD9 := hD8.below hB9
  have hL9 := bel_then hL8 hB9
  clear hC8 hD8 hL8 hC7 hD7 hL7
  go_wp2_with fail
  refine (cursor_Ahead d T S.size 1 _ hD9 (by omega)).mono ?_
  rintro e w10 ⟨rfl, hB10⟩
  rw [S4.out]
  have hC10 := hC9.below hB10
  have hD10 := hD9.below hB10
  go_wp2_with fail
  refine (cursor_Err d T S.size 1 _ hD10).mono ?_
  rintro e w' ⟨rfl, rfl⟩
  rw [Q4.out]
  go_wp2_with fail
  refine (cursor_Count c S S.size 1 _ hC10).mono ?_
  rintro e w' ⟨rfl, rfl⟩
  go_wp2
  go_ret
  exact ⟨rfl, bel_then hL9 hB10⟩
end Go.Proofs.Ytjdjpljjahnhjaa
