/- The laws of layer 2 (varint), walked. No condition. -/
import Derived.Test.YtofdnamgnijfnaaVarPut
namespace Go.Proofs.Ytofdnamgnijfnaa
open Go.RowKit
set_option linter.unusedVariables false
set_option linter.unusedSimpArgs false

def lit8101 : ByteArray := { data := #[129, 1] }
theorem vget_lit : vget (bl lit8101) = (129, 2, 0) := by
  show vget [129, 1] = _
  simp [vget, vgetFrom]
theorem vput_lit : vput (vfold (-65)) = [129, 1] := by
  have : vfold (-65) = 129 := by decide
  rw [this, vput_ge (by decide), vput_lt (by decide)]; rfl
theorem law02_speaks (w : World) : Calls Try.prog 22 #[] w fun e w' => e = .returned (.bool true) ∧ Below w.heap.size w w' := by
  have e1 : vback (vget (bl lit8101)).1 = -65 := by rw [vget_lit]; decide
  have e2 : vg2 lit8101 = 2 := (vg_of vget_lit).2.1
  have e3 : vg3 lit8101 = 0 := (vg_of vget_lit).2.2
  go_enter Try.func22, Try.ntmps22
  go_wp2_with fail
  refine (varint_GetInt lit8101 w (by decide)).mono ?_
  rintro e w' ⟨rfl, rfl⟩
  rw [e1, e2, e3]
  go_wp2_with fail
  refine (varint_PutInt w.heap.size (.slice none 0 0) [] (-65) w (OwnC.nil _ _) (Nat.le_refl _) (by unfold I64; omega) (by simp)).mono ?_
  rintro e w1 ⟨v1, rfl, h1, h2, h3⟩
  have hconv := h1.string (P := Try.prog) 32 9 5 (by kernel_rfl) (by kernel_rfl) (by kernel_rfl)
  rw [vput_lit, show strOf ([] ++ [129, 1]) = { data := #[129, 1] } from rfl] at hconv
  go_wp2
  go_ret
  exact ⟨by simp, h2.below (fun i hi e => by cases e)⟩

theorem strOf_take (s : ByteArray) (k : Nat) : strOf ((bl s).take k) = s.extract 0 k := by
  apply ByteArray.ext
  rw [ByteArray.data_extract]
  unfold strOf bl
  apply Array.ext'
  simp

set_option maxHeartbeats 4000000 in
theorem varintGets (s : ByteArray) (w : World) (hs : s.size ≤ maxLen) :
    Calls Try.prog 6 #[.string s] w fun e w' => e = .returned (.bool true) ∧ Below w.heap.size w w' := by
  have hlt := vgetFrom_lt (bl s) 0 0 (by decide)
  have HV : Hid (vg1 s = ((vget (bl s)).1 : Int)) := rfl
  have HLT := hid' (show (vget (bl s)).1 < 18446744073709551616 from hlt)
  clear hlt
  go_enter Try.func6, Try.ntmps6
  go_wp2_with fail
  refine (law02_speaks w).mono ?_
  rintro e w1 ⟨rfl, hB⟩
  by_cases hlen : s.size ≤ 200
  · go_wp2_with fail
    go_wp2_with fail
    refine (varint_Get s _ hs).mono ?_
    rintro e w' ⟨rfl, rfl⟩
    go_wp2_with fail
    refine (ref02_Get s _ hs).mono ?_
    rintro e w' ⟨rfl, rfl⟩
    go_wp2_with fail
    refine (varint_GetInt s _ hs).mono ?_
    rintro e w' ⟨rfl, rfl⟩
    go_wp2_with fail
    rw [HV.out]
    refine (ref02_Back (vget (bl s)).1 _ HLT.out).mono ?_
    rintro e w' ⟨rfl, rfl⟩
    by_cases hf : (vget (bl s)).2.2 = 0
    · have hone := vget_one (bl s) (vget (bl s)).1 (vget (bl s)).2.1 (by rw [← hf])
      have hk := hone.2.2
      rw [bl_len] at hk
      have e2 : vg2 s = ((vget (bl s)).2.1 : Int) := rfl
      have e3 : vg3 s = 0 := by show ((vget (bl s)).2.2 : Int) = 0; rw [hf]; rfl
      have HS := hid' (show strOf (vput (vget (bl s)).1) = s.extract 0 (vget (bl s)).2.1 by rw [hone.1, strOf_take])
      rw [e2, e3]
      clear e2 e3 hone hf HV
      generalize (vget (bl s)).2.1 = k at *
      generalize (vget (bl s)).1 = m at *
      go_wp2
      go_region_with (
        (go_at_call 27; refine (varint_Put w1.heap.size (.slice none 0 0) [] m _ (OwnC.nil _ _) (by simp) HLT.out (by simp)).mono ?_; rintro e w2 ⟨v2, rfl, h1, h2, h3⟩; have hconv := h1.string (P := Try.prog) 32 9 5 (by kernel_rfl) (by kernel_rfl) (by kernel_rfl)))
      all_goals
        have hb2 := bel_then hB (bel_then (bel_drew (bel_refl _)) (h2.below (fun i hi e => by cases e)))
        go_wp2
        go_ret
        refine ⟨congrArg Ending.returned ?_, hb2⟩
        first
          | rfl
          | (show Value.bool ((strOf (vput m)).toList == (s.extract 0 k).toList) = Value.bool true
             rw [HS.out, beq_self_eq_true])
    · have e3 : vg3 s = 1 ∨ vg3 s = 2 := by
        have := vgetFrom_kind (bl s) 0 0
        have h2 : vg3 s = ((vget (bl s)).2.2 : Int) := rfl
        rw [h2]
        have : (vget (bl s)).2.2 = 0 ∨ (vget (bl s)).2.2 = 1 ∨ (vget (bl s)).2.2 = 2 := this
        omega
      rcases e3 with e3 | e3
      all_goals
        rw [e3]
        go_wp2
        go_region
        all_goals
          go_wp2
          go_ret
          exact ⟨by simp, (by repeat (first | assumption | apply bel_alloc | apply bel_drewN | apply bel_drew | exact bel_refl _))⟩
  · go_wp2
    go_ret
    exact ⟨rfl, hB⟩
end Go.Proofs.Ytofdnamgnijfnaa
