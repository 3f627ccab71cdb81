
/- Numbers as bytes: any numbers, one behind the other, are read again, walked. No condition. -/
import Derived.Test.YtofdnamgnijfnaaVarPut
import Derived.Test.YtofdnamgnijfnaaSat
import Derived.BigQuiet
namespace Go.Proofs.Ytofdnamgnijfnaa
open Go.RowKit
set_option linter.unusedVariables false
set_option linter.unusedSimpArgs false

def bytesOf (l : List Int) : List UInt8 := (l.map fun n => vput (vfold n)).flatten
theorem bytesOf_snoc (l : List Int) (x : Int) : bytesOf (l ++ [x]) = bytesOf l ++ vput (vfold x) := by unfold bytesOf; simp
theorem bytesOf_cons (l : List Int) (x : Int) : bytesOf (x :: l) = vput (vfold x) ++ bytesOf l := by unfold bytesOf; simp
theorem vput10 {n : Nat} (h : n < 18446744073709551616) : (vput n).length ≤ 10 := by
  have := vput_len 9 n (by have : (128 : Nat) ^ (9 + 1) = 1180591620717411303424 := by decide
                           omega)
  omega
theorem bytesOf_len (l : List Int) (h : ∀ x ∈ l, I64 x) : (bytesOf l).length ≤ 10 * l.length := by
  induction l with
  | nil => simp [bytesOf]
  | cons x l ih =>
    rw [bytesOf_cons, List.length_append, List.length_cons]
    have h1 := vput10 (vfold_lt (h x (List.mem_cons_self ..)))
    have h2 := ih (fun y hy => h y (List.mem_cons_of_mem _ hy))
    omega
theorem strOf_cut (a b : List UInt8) : (strOf (a ++ b)).extract a.length (strOf (a ++ b)).size = strOf b := by
  apply ByteArray.ext
  rw [ByteArray.data_extract]
  unfold strOf
  apply Array.ext'
  have : (ByteArray.mk (a ++ b).toArray).size = (a ++ b).length := by simp [ByteArray.size]
  rw [this]
  simp
def lit81 : ByteArray := { data := #[129, 1] }
theorem vput65 : vput (vfold (-65)) = [129, 1] := by
  have : vfold (-65) = 129 := by decide
  rw [this, vput_ge (by decide), vput_lt (by decide)]; rfl
theorem strOf_size (l : List UInt8) : (strOf l).size = l.length := by unfold strOf; simp [ByteArray.size]

set_option maxRecDepth 100000 in
set_option maxHeartbeats 4000000 in
theorem wholeNumbers (A : Option Addr) (cp : Nat) (l : List Int) (w : World) (hr : Rd w A (l.map (.int .i64))) (hl : ∀ x ∈ l, (Lit.int .i64 x).wf = true) (hn : l.length ≤ maxLen) :
    Calls Try.prog 11 #[.slice A l.length cp] w fun e w' => e = .returned (.bool true) ∧ Below w.heap.size w w' := by
  have hn' : l.length ≤ 9223372036854775807 := hn
  have HR := hid' hr
  have HL := hid' (fun x hx => I64.of_wf (hl x hx))
  have hs : satAdd 9223372036854775807 1 = 9223372036854775807 := by decide
  clear hr hl hn
  go_enter Try.func11, Try.ntmps11
  go_wp2_with fail
  refine (sat_Add 9223372036854775807 1 _ (by unfold I64 at *; omega) (by unfold I64 at *; omega)).mono ?_
  rintro e w' ⟨rfl, rfl⟩
  rw [hs]
  go_wp2_with fail
  refine (varint_PutInt w.heap.size (.slice none 0 0) [] (-65) w (OwnC.nil _ _) (Nat.le_refl _) (by unfold I64; omega) (by simp)).mono ?_
  rintro e w1 ⟨v1, rfl, h1, h2, h3⟩
  have hconv := h1.string (P := Try.prog) 32 9 5 (by kernel_rfl) (by kernel_rfl) (by kernel_rfl)
  rw [vput65, show strOf ([] ++ [129, 1]) = { data := #[129, 1] } from rfl] at hconv
  have HB := hid' (h2.below (fun i hi e => by cases e))
  clear h1 h2 h3 hs
  by_cases hl0 : 200 < l.length
  · go_wp2
    go_ret
    exact ⟨rfl, HB.out⟩
  have HR1 := hid' (HR.out.below HB.out)
  go_wp2
  clear hconv
  go_loopw [3, 25] (fun v3 v25 wr => ∃ k : Nat, k ≤ l.length ∧ v25 = .int .i64 k ∧ Below w1.heap.size w1 wr ∧ OwnC wr w1.heap.size v3 (bytesOf (l.take k)).length ((bytesOf (l.take k)).map bcell)) (fun _ v25 _ => l.length - (intOf v25).toNat)
  case atStart => exact ⟨0, Nat.zero_le _, rfl, bel_refl _, OwnC.nil _ _⟩
  case round =>
    obtain ⟨k, hk, rfl, hbw, hown⟩ := hrel
    have HO := hid' hown
    clear hown
    by_cases hlt : k < l.length
    · obtain ⟨ad, x, rfl, hx, hcx⟩ := Rd.at_ (HR1.out.below hbw) hlt
      have HX := hid' (HL.out x (mem_of_get hx))
      have HS := hid' (show bytesOf (l.take (k + 1)) = bytesOf (l.take k) ++ vput (vfold x) by rw [take_snoc' hx, bytesOf_snoc])
      have hlen := bytesOf_len (l.take k) (fun y hy => HL.out y (List.mem_of_mem_take hy))
      rw [List.length_take] at hlen
      clear hx
      generalize bytesOf (l.take k) = bs at *
      have hsz := hbw.size
      go_wp2_with fail
      refine (varint_PutInt w1.heap.size _ bs x _ HO.out hsz HX.out (by omega)).mono ?_
      rintro e w5 ⟨v5, rfl, h1, h2, h3⟩
      have hb5 := bel_mod hbw h2 (fun i hi e => by have := (HO.out.base i e).1; omega)
      have HO5 := hid' h1
      clear h1 h2 h3 HO
      go_wp2
      go_roundw
      case rel => exact ⟨k + 1, by omega, by go_num, hb5, by rw [HS.out]; exact HO5.out⟩
      case measure => simp [intOf]; omega
    · have hkl : k = l.length := by omega
      subst hkl
      have hO := HO.out
      rw [List.take_length] at hO
      have hconv := hO.string (P := Try.prog) 32 9 5 (by kernel_rfl) (by kernel_rfl) (by kernel_rfl)
      have HR2 := hid' (HR1.out.below hbw)
      have HBw := hid' hbw
      clear hO HO hbw
      go_wp2
      try rw [hconv]
      try go_wp2
      clear hconv
      generalize wr = w3 at *
      go_loopw [6, 7, 37] (fun v6 v7 v37 wq => ∃ k : Nat, k ≤ l.length ∧ v37 = .int .i64 k ∧ v6 = .string (strOf (bytesOf (l.drop k))) ∧ v7 = .int .i64 ((l.take k).foldl satAdd 0) ∧ Dr w3 wq) (fun _ _ v37 _ => l.length - (intOf v37).toNat)
      case atStart => exact ⟨0, Nat.zero_le _, rfl, rfl, rfl, Dr.refl _⟩
      case round =>
        obtain ⟨k, hk, rfl, rfl, rfl, hdr⟩ := hrel
        have HSI := hid' (foldl_I64 (l.take k) 0 (by unfold I64; omega))
        by_cases hlt : k < l.length
        · obtain ⟨ad, x, rfl, hx, hcx⟩ := Rd.at_ (HR2.out.below hdr.below) hlt
          have HX := hid' (HL.out x (mem_of_get hx))
          have hdk : l.drop k = x :: l.drop (k + 1) := by
            rw [List.drop_eq_getElem_cons hlt]
            have := (List.getElem?_eq_some_iff.1 hx).2
            rw [this]
          have hbk : bytesOf (l.drop k) = vput (vfold x) ++ bytesOf (l.drop (k + 1)) := by rw [hdk, bytesOf_cons]
          have hv := vget_put (vfold x) (bytesOf (l.drop (k + 1))) (vfold_lt HX.out)
          have hlen := bytesOf_len (l.drop k) (fun y hy => HL.out y (List.mem_of_mem_drop hy))
          rw [List.length_drop] at hlen
          have hsz : (strOf (bytesOf (l.drop k))).size = (bytesOf (l.drop k)).length := strOf_size _
          have hm : (vput (vfold x)).length ≤ (bytesOf (l.drop k)).length := by rw [hbk, List.length_append]; omega
          have hm0 := vput_pos (vfold x)
          have HCut := hid' (show (strOf (bytesOf (l.drop k))).extract (vput (vfold x)).length (strOf (bytesOf (l.drop k))).size = strOf (bytesOf (l.drop (k + 1))) by rw [hbk]; exact strOf_cut _ _)
          have hvg := vg_of (s := strOf (bytesOf (l.drop k))) (show vget (bl (strOf (bytesOf (l.drop k)))) = (vfold x, (vput (vfold x)).length, 0) by rw [hbk]; exact hv)
          have HV1 := hid' (show vback (vget (bl (strOf (bytesOf (l.drop k))))).1 = x by
            rw [show bl (strOf (bytesOf (l.drop k))) = bytesOf (l.drop k) from rfl, hbk, hv]; exact vback_fold x)
          have HV2 := hid' hvg.2.1
          have HV3 := hid' hvg.2.2
          have HT := hid' (show (l.take (k + 1)).foldl satAdd 0 = satAdd ((l.take k).foldl satAdd 0) x by rw [take_snoc' hx]; simp)
          clear hdk hbk hv hvg hx
          generalize (l.take k).foldl satAdd 0 = sm at *
          generalize (bytesOf (l.drop k)).length = bl0 at *
          generalize strOf (bytesOf (l.drop k)) = s0 at *
          generalize (vput (vfold x)).length = m at *
          have hms : (m : Int) ≤ (s0.size : Int) := by omega
          have hm1 : (0 : Int) ≤ (m : Int) := by omega
          go_wp2_with fail
          refine (varint_GetInt s0 _ (by unfold maxLen; omega)).mono ?_
          rintro e w' ⟨rfl, rfl⟩
          rw [HV1.out, HV2.out, HV3.out]
          go_wp2
          go_quiet ((go_at_call 40; exact quiet_same (sat_Add sm x _ HSI.out HX.out) (by repeat (first | exact Dr.refl _ | apply Dr.step | apply Dr.stepd))))
          go_wp2
          go_roundw
          case rel => exact ⟨k + 1, by omega, by go_num, by rw [← HCut.out, hsz], by rw [HT.out], by exact hdr.trans (by repeat (first | exact Dr.refl _ | apply Dr.step | apply Dr.stepd))⟩
          case measure => simp [intOf]; omega
        · have hkl : k = l.length := by omega
          subst hkl
          have HE := hid' (show strOf (bytesOf (l.drop l.length)) = { data := #[] } by rw [List.drop_length]; rfl)
          rw [HE.out, List.take_length]
          have HSum := hid' (sat_Sum A cp l wr (HR2.out.below hdr.below) HL.out hn')
          go_wp2_with (go_at_call 41; refine (HSum.out).mono ?_; rintro e w' ⟨rfl, rfl⟩)
          go_ret
          exact ⟨ret_bool (by simp), bel_then HB.out (bel_then HBw.out hdr.below)⟩
end Go.Proofs.Ytofdnamgnijfnaa
