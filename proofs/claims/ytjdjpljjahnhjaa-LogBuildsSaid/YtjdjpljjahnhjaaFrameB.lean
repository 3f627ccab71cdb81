
/- frame.Encode and its reference. No condition. -/
import Derived.Test.YtjdjpljjahnhjaaFrame
namespace Go.Proofs.Ytjdjpljjahnhjaa
set_option maxRecDepth 100000
set_option linter.unusedSimpArgs false
open Go.RowKit
set_option linter.unusedVariables false
set_option linter.unusedSimpArgs false

theorem kindOk_two {k : Int} (h : kindOk k = true) : k = 1 ∨ k = 2 := by unfold kindOk at h; simpa using h
theorem kindOk_not {k : Int} (h : ¬ kindOk k = true) : k ≠ 1 ∧ k ≠ 2 := by
  refine ⟨fun e => h (by rw [e]; rfl), fun e => h (by rw [e]; rfl)⟩
theorem recBody_le (r : Rec) (ht : I64 r.2.1) : (recBody r).size ≤ 11 + r.2.2.size := by
  have := recBody_size r
  have := vput10 _ (vfold_lt ht)
  omega
theorem ref05_Check (r : Rec) (w : World) (ht : I64 r.2.1) (hs : r.2.2.size ≤ 200000) :
    Calls Try.prog 24 #[recV r] w fun e w' => e = .returned (.int .i64 (fCheck r)) ∧ Below w.heap.size w w' := by
  obtain ⟨k, t, s⟩ := r
  have hs : s.size ≤ 200000 := hs
  have hb0 := bel_refl w
  by_cases hk : kindOk k = true
  · have HBd := hid' (fun w => ref05_body (k, t, s) w ht hs)
    have hle := recBody_le (k, t, s) ht
    simp only at hle
    have hf1 : fCheck (k, t, s) = if 65536 < (recBody (k, t, s)).size then 4 else 0 := by unfold fCheck; rw [if_pos hk]
    obtain ⟨b, hb⟩ : ∃ b, b = recBody (k, t, s) := ⟨_, rfl⟩
    rw [← hb] at HBd hf1 hle
    obtain ⟨f, hf⟩ : ∃ f, f = fCheck (k, t, s) := ⟨_, rfl⟩
    rw [← hf] at hf1 ⊢
    have HF := hid' hf1
    clear hf1 hf hb
    unfold recV at HBd ⊢
    simp only at HBd ⊢
    have hbl : b.size ≤ 9223372036854775807 := by omega
    rcases kindOk_two hk with h | h
    all_goals
      subst h
      by_cases hl : 65536 < b.size
      all_goals
        have HG := hid' HF.out
        first | rw [if_pos hl] at HG | rw [if_neg hl] at HG
        clear hk
        go_enter Try.func24, Try.ntmps24
        go_wp2_with (go_at_call 45; refine (HBd.out _).mono ?_; rintro e w2 ⟨rfl, hB2⟩)
        go_ret
        exact ⟨ret_int HG.out.symm, bel_then (bel_alloc hb0 _) hB2⟩
  · obtain ⟨h1, h2⟩ := kindOk_not hk
    have HF := hid' (show fCheck (k, t, s) = 3 by unfold fCheck; rw [if_neg hk])
    have n1 : (k != 1) = true := by simp [h1]
    have n2 : (k != 2) = true := by simp [h2]
    clear hk h1 h2
    unfold recV
    simp only
    go_enter Try.func24, Try.ntmps24
    go_wp2_with fail
    all_goals first | (exfalso; omega) | (go_ret; exact ⟨ret_int HF.out.symm, bel_alloc hb0 _⟩)
theorem ref05_Encode (r : Rec) (w : World) (ht : I64 r.2.1) (hs : r.2.2.size ≤ 200000) :
    Calls Try.prog 27 #[recV r] w fun e w' => e = .returned (.string (fFull r)) ∧ Below w.heap.size w w' := by
  obtain ⟨k, t, s⟩ := r
  have hs : s.size ≤ 200000 := hs
  have hb0 := bel_refl w
  have HBd := hid' (fun w => ref05_body (k, t, s) w ht hs)
  have hle := recBody_le (k, t, s) ht
  simp only at hle
  have HE := hid' (show fFull (k, t, s) = strOf (vput (recBody (k, t, s)).size) ++ cseal (recBody (k, t, s)) from rfl)
  obtain ⟨b, hb⟩ : ∃ b, b = recBody (k, t, s) := ⟨_, rfl⟩
  rw [← hb] at HBd hle HE
  clear hb
  have hcs := cseal_size b
  have hv := vput10 b.size (by omega)
  have HP := hid' (fun w => ref02_Put b.size w (by omega))
  have HS := hid' (fun w => ref03_Seal b w (by omega))
  obtain ⟨u, hu⟩ : ∃ u, u = strOf (vput b.size) := ⟨_, rfl⟩
  have hus : u.size ≤ 10 := by rw [hu]; exact hv
  obtain ⟨z, hz⟩ : ∃ z, z = cseal b := ⟨_, rfl⟩
  rw [← hu] at HE HP
  rw [← hz] at HE HS hcs
  clear hu hz hv
  unfold recV at HBd ⊢
  simp only at HBd ⊢
  have hj : u.size + z.size ≤ 9223372036854775807 := by omega
  go_enter Try.func27, Try.ntmps27
  go_wp2_with (first
    | (go_at_call 45; refine (HBd.out _).mono ?_; rintro e w2 ⟨rfl, hB2⟩)
    | (go_at_call 15; refine (HP.out _).mono ?_; rintro e w3 ⟨rfl, hB3⟩)
    | (go_at_call 48; refine (HS.out _).mono ?_; rintro e w4 ⟨rfl, hB4⟩))
  go_ret
  exact ⟨congrArg Ending.returned (by rw [HE.out]; rfl), bel_then (bel_then (bel_then (bel_alloc hb0 _) hB2) hB3) hB4⟩
end Go.Proofs.Ytjdjpljjahnhjaa
