
/- A record's body may be just as long as it may be: the law, walked. No condition. -/
import Derived.Test.YtjdjpljjahnhjaaLawFrame
namespace Go.Proofs.Ytjdjpljjahnhjaa
set_option maxRecDepth 100000
set_option linter.unusedSimpArgs false
open Go.RowKit
set_option linter.unusedVariables false
set_option linter.unusedSimpArgs false

theorem wf_u8b {a : Int} (h : (Lit.int .u8 a).wf = true) : 0 ≤ a ∧ a < 256 := by
  simp [Lit.wf, IntKind.min, IntKind.max, IntKind.signed, IntKind.bits] at h; omega

def zs (n : Nat) : ByteArray := strOf (List.replicate n (0 : UInt8))
theorem zs_size (n : Nat) : (zs n).size = n := by rw [size_bl]; unfold zs; rw [bl_str]; simp
theorem own_zs (w : World) (e : TypeId) (n : Nat) (hn : n ≤ maxLen) : OwnC (w.alloc (.cells (madeCells #[.int .u8 0] n) e)) w.heap.size (.slice (some ⟨w.heap.size, 0, none⟩) n n) n ((List.replicate n (0 : UInt8)).map bcell) := by
  refine ⟨by simp, hn, .inr ⟨w.heap.size, n, rfl, Nat.le_refl _, by simp, Nat.le_refl _, fun j u hj => ?_, fun j h1 h2 => by omega⟩⟩
  rw [(Blk.new_ w e (madeCells #[.int .u8 0] n)).cell, ← Array.getElem?_toList, toList_madeCells_one]
  rw [List.map_replicate] at hj
  exact hj
theorem long_size (t : Int) (x : ByteArray) : (recBody (2, t, x)).size = 1 + (vput (vfold t)).length + x.size := by rw [recBody_size]
theorem long_check (t : Int) (x : ByteArray) : fCheck (2, t, x) = if 65536 < 1 + (vput (vfold t)).length + x.size then 4 else 0 := by
  unfold fCheck; rw [if_pos (by rfl), long_size]

set_option maxHeartbeats 4000000 in
theorem frameLong (t d : Int) (en : ByteArray) (w : World) (ht : (Lit.int .i64 t).wf = true) (hd : (Lit.int .u8 d).wf = true) (he : en.size ≤ maxLen) :
    Calls Try.prog 6 #[.int .i64 t, .int .u8 d, .string en] w fun e w' => e = .returned (.bool true) ∧ Below w.heap.size w w' := by
  have he' : en.size ≤ 9223372036854775807 := he
  have htI := I64.of_wf ht
  obtain ⟨hd0, hd1⟩ := wf_u8b hd
  clear ht hd he
  by_cases hbig : 100 < en.size
  · go_enter Try.func6, Try.ntmps6
    go_wp2_with (go_at_call 22; refine (law05_speaks _).mono ?_; rintro e w1 ⟨rfl, hB1⟩)
    go_ret
    exact ⟨rfl, hB1⟩
  obtain ⟨D, hD⟩ : ∃ D : Nat, d % 5 = (D : Int) := ⟨(d % 5).toNat, by omega⟩
  have hDb : D ≤ 4 := by omega
  have hv10 := vput10 (vfold t) (vfold_lt htI)
  have hv1 : 1 ≤ (vput (vfold t)).length := by
    rw [vput]; split <;> simp
  have hc0 := long_check t ⟨#[]⟩
  have hz0 : (⟨#[]⟩ : ByteArray).size = 0 := rfl
  have hs0 := fFull_size (2, t, ⟨#[]⟩)
  rw [long_size, hz0] at hs0
  rw [hz0] at hc0
  rw [if_neg (by omega)] at hc0
  have hp0 : (vput (1 + (vput (vfold t)).length + 0)).length = 1 := by
    rw [vput, dif_pos (by omega)]; rfl
  rw [hp0] at hs0
  have HE1 := hid' (fun w => frame_Encode (2, t, ⟨#[]⟩) w htI (by show (0 : Nat) ≤ 200000; omega))
  rw [hc0, show fEncS (2, t, ⟨#[]⟩) = fFull (2, t, ⟨#[]⟩) by unfold fEncS; rw [if_pos hc0]] at HE1
  unfold recV at HE1
  simp only at HE1
  have hchk := fun x => long_check t x
  generalize fFull (2, t, ⟨#[]⟩) = hdr at *
  obtain ⟨h, hh⟩ : ∃ h, h = (vput (vfold t)).length := ⟨_, rfl⟩
  rw [← hh] at hv10 hv1 hs0
  simp only [← hh] at hchk
  obtain ⟨a1, ha1⟩ : ∃ a1, a1 = h + 1 := ⟨_, rfl⟩
  obtain ⟨a2, ha2⟩ : ∃ a2, a2 = 65536 - a1 := ⟨_, rfl⟩
  obtain ⟨a3, ha3⟩ : ∃ a3, a3 = a2 - 2 := ⟨_, rfl⟩
  obtain ⟨a4, ha4⟩ : ∃ a4, a4 = a3 + D := ⟨_, rfl⟩
  obtain ⟨N, hN⟩ : ∃ N, N = a4 - en.size := ⟨_, rfl⟩
  have s1 : (hdr.size : Int) - 5 = (a1 : Int) := by omega
  have s2 : (65536 : Int) - (a1 : Int) = (a2 : Int) := by omega
  have s3 : (a2 : Int) - 2 = (a3 : Int) := by omega
  have s4 : (a3 : Int) + (D : Int) = (a4 : Int) := by omega
  have s5 : (a4 : Int) - (en.size : Int) = (N : Int) := by omega
  have b0 : hdr.size ≤ 20 := by omega
  have b1 : a1 ≤ 20 := by omega
  have b2 : a2 ≤ 65536 := by omega
  have b3 : a3 ≤ 65536 := by omega
  have b4 : a4 ≤ 65540 := by omega
  have b5 : N ≤ 65540 := by omega
  have HMK := hid' (mk1_run (P := Try.prog) 24 5 (.int .u8 0) 1 (by kernel_rfl) (by kernel_rfl) rfl N (by omega) (by omega))
  have hj : N + en.size ≤ 9223372036854775807 := by omega
  obtain ⟨Z, hZ⟩ : ∃ Z, Z = zs N ++ en := ⟨_, rfl⟩
  have hZs : Z.size = N + en.size := by rw [hZ, size_app, zs_size]
  have HE2 := hid' (fun w => frame_Encode (2, t, Z) w htI (by rw [hZs]; omega))
  have hcz := hchk Z
  have hfz := fFull_size (2, t, Z)
  rw [long_size, ← hh] at hfz
  have hp1 := vput10 (1 + h + Z.size) (by omega)
  have hfzb : (fFull (2, t, Z)).size ≤ 70000 := by omega
  have hzs := zs_size N
  have hj2 : (zs N).size + en.size ≤ 9223372036854775807 := by omega
  have HOZ := hid' (fun w => (own_zs w 5 N (by unfold maxLen; omega)).string (P := Try.prog) 24 9 5 (by kernel_rfl) (by kernel_rfl) (by kernel_rfl))
  rw [show strOf (List.replicate N (0 : UInt8)) = zs N from rfl] at HOZ
  have HZ := hid' hZ
  have htI' := hid' htI
  unfold recV at HE2
  simp only at HE2
  have hget := fun hc => fGet_full (r := (2, t, Z)) hc htI ⟨#[]⟩
  rw [show fFull (2, t, Z) ++ ⟨#[]⟩ = fFull (2, t, Z) from bl_inj (by rw [bl_app]; simp [bl])] at hget
  have hes : fEncS (2, t, Z) = if fCheck (2, t, Z) = 0 then fFull (2, t, Z) else ⟨#[]⟩ := rfl
  generalize fFull (2, t, Z) = S at *
  clear hchk hc0 hs0 hp0 hfz hp1 hz0
  by_cases hD2 : 2 < D
  · rw [if_pos (by omega)] at hcz
    rw [hcz] at hes HE2
    rw [if_neg (by decide)] at hes
    rw [hes] at HE2
    clear hget hcz hes hZ hN ha1 ha2 ha3 ha4 hh htI hv10 hv1
    go_enter Try.func6, Try.ntmps6
    go_wp2_with (first
      | (go_at_call 22; refine (law05_speaks _).mono ?_; rintro e w1 ⟨rfl, hB1⟩)
      | (go_at_call 23; refine (HE1.out _).mono ?_; rintro e w2 ⟨rfl, hB2⟩))
    rw [HMK.out]
    go_wp2
    rw [HOZ.out]
    go_wp2_with fail
    rw [← HZ.out]
    have hB3 := bel_alloc (bel_then hB1 hB2) (.cells (madeCells #[.int .u8 0] N) 5)
    have hs3 : (w2.alloc (.cells (madeCells #[.int .u8 0] N) 5)).heap.size = w2.heap.size + 1 := by simp
    generalize (w2.alloc (.cells (madeCells #[.int .u8 0] N) 5)) = w3 at *
    have hbk4 := Blk.new_ w3 37 #[.int .i64 2, .int .i64 t, .string Z]
    rw [hs3] at hbk4
    generalize w2.heap.size + 1 = b0 at *
    have HK4 := hid' hbk4
    clear hbk4 hs3
    have HB4 := hid' (bel_alloc hB3 (.cells #[.int .i64 2, .int .i64 t, .string Z] 37))
    generalize w3.alloc (.cells #[.int .i64 2, .int .i64 t, .string Z] 37) = w4 at *
    clear hB3 hB2 hB1
    refine (HE2.out _).mono ?_
    rintro e w5 ⟨rfl, hB5⟩
    have HK5 := hid' (HK4.out.below hB5)
    have c0 : w5.cell? ⟨b0, 0, none⟩ = some (.int .i64 2) := by simpa using HK5.out.cell 0
    have c1 : w5.cell? ⟨b0, 1, none⟩ = some (.int .i64 t) := by simpa using HK5.out.cell 1
    have c2 : w5.cell? ⟨b0, 2, none⟩ = some (.string Z) := by simpa using HK5.out.cell 2
    have HB5 := hid' (bel_then HB4.out hB5)
    clear hB5
    go_wp2
    all_goals
      go_ret
      exact ⟨rfl, HB5.out⟩
  · rw [if_neg (by omega)] at hcz
    have hg := hget hcz
    rw [hcz] at hes HE2
    rw [if_pos (by decide)] at hes
    rw [hes] at HE2
    have HG := hid' (fun w => frame_Get S w (by omega))
    rw [hg] at HG
    unfold recV at HG
    simp only at HG
    clear hget hg hcz hes hZ hN ha1 ha2 ha3 ha4 hh htI hv10 hv1
    go_enter Try.func6, Try.ntmps6
    go_wp2_with (first
      | (go_at_call 22; refine (law05_speaks _).mono ?_; rintro e w1 ⟨rfl, hB1⟩)
      | (go_at_call 23; refine (HE1.out _).mono ?_; rintro e w2 ⟨rfl, hB2⟩))
    rw [HMK.out]
    go_wp2
    rw [HOZ.out]
    go_wp2_with fail
    rw [← HZ.out]
    have hB3 := bel_alloc (bel_then hB1 hB2) (.cells (madeCells #[.int .u8 0] N) 5)
    have hs3 : (w2.alloc (.cells (madeCells #[.int .u8 0] N) 5)).heap.size = w2.heap.size + 1 := by simp
    generalize (w2.alloc (.cells (madeCells #[.int .u8 0] N) 5)) = w3 at *
    have hbk4 := Blk.new_ w3 37 #[.int .i64 2, .int .i64 t, .string Z]
    rw [hs3] at hbk4
    generalize w2.heap.size + 1 = b0 at *
    have HK4 := hid' hbk4
    clear hbk4 hs3
    have HB4 := hid' (bel_alloc hB3 (.cells #[.int .i64 2, .int .i64 t, .string Z] 37))
    generalize w3.alloc (.cells #[.int .i64 2, .int .i64 t, .string Z] 37) = w4 at *
    clear hB3 hB2 hB1
    refine (HE2.out _).mono ?_
    rintro e w5 ⟨rfl, hB5⟩
    have HK5 := hid' (HK4.out.below hB5)
    have c0 : w5.cell? ⟨b0, 0, none⟩ = some (.int .i64 2) := by simpa using HK5.out.cell 0
    have c1 : w5.cell? ⟨b0, 1, none⟩ = some (.int .i64 t) := by simpa using HK5.out.cell 1
    have c2 : w5.cell? ⟨b0, 2, none⟩ = some (.string Z) := by simpa using HK5.out.cell 2
    have HB5 := hid' (bel_then HB4.out hB5)
    clear hB5
    go_wp2_with (go_at_call 26; refine (HG.out _).mono ?_; rintro e w6 ⟨rfl, hB6⟩; have HK6 := hid' (HK5.out.below hB6); have hl6 := HK6.out.lt; have hn6 : b0 ≠ w6.heap.size := (by omega); have c0 : w6.cell? ⟨b0, 0, none⟩ = some (.int .i64 2) := (by simpa using HK6.out.cell 0); have c1 : w6.cell? ⟨b0, 1, none⟩ = some (.int .i64 t) := (by simpa using HK6.out.cell 1); have c2 : w6.cell? ⟨b0, 2, none⟩ = some (.string Z) := (by simpa using HK6.out.cell 2))
    all_goals
      go_ret
      exact ⟨rfl, bel_alloc (bel_then HB5.out hB6) _⟩
end Go.Proofs.Ytjdjpljjahnhjaa
