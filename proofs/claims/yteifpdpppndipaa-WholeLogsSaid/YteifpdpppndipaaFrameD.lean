
/- frame.open and frame.Get. No condition. -/
import Derived.Test.YteifpdpppndipaaFrameC
import Derived.Laws.ResultCell
namespace Go.Proofs.Yteifpdpppndipaa
set_option maxRecDepth 100000
set_option linter.unusedSimpArgs false
open Go.RowKit
set_option linter.unusedVariables false
set_option linter.unusedSimpArgs false

theorem bl_tail (b : ByteArray) : bl (b.extract 1 b.size) = (bl b).drop 1 := by
  rw [bl_ext, List.take_of_length_le]
  rw [List.length_drop, ← size_bl]; omega
theorem bl_head (b : ByteArray) (h : 0 < b.size) : (bl b).getD 0 0 = b[0] := by
  have := bl_at b 0 h
  rw [List.drop_zero] at this
  rw [this]; rfl
theorem vg3_kind (s : ByteArray) : vg3 s = 0 ∨ vg3 s = 1 ∨ vg3 s = 2 := by
  have h2 : vg3 s = ((vget (bl s)).2.2 : Int) := rfl
  rw [h2]
  have : (vget (bl s)).2.2 = 0 ∨ (vget (bl s)).2.2 = 1 ∨ (vget (bl s)).2.2 = 2 := vgetFrom_kind (bl s) 0 0
  omega
set_option maxHeartbeats 1000000 in
theorem frame_open (b : ByteArray) (w : World) (h1 : 0 < b.size) (hs : b.size ≤ 200000) :
    Calls Try.prog 28 #[.string b] w fun e w' => e = .returned (.tuple #[recV (fOpen b).1, .int .i64 (fOpen b).2]) ∧ Below w.heap.size w w' := by
  have hz : (zeroValue 40).run Try.prog w = .ok (.agg #[.int .i64 0, .int .i64 0, .string ⟨#[]⟩]) w := by kernel_rfl
  have hI : (0 : Int) < (b.size : Int) := by omega
  have hlen : b.size ≤ 9223372036854775807 := by omega
  have hcl := (b[0]).toNat_lt
  have hcw : wrap64 ((b[0]).toNat : Int) = ((b[0]).toNat : Int) := by unfold wrap64; omega
  have hcw2 : IntKind.i64.wrap ((b[0]).toNat : Int) = ((b[0]).toNat : Int) := by rw [IntKind.wrap_i64]; omega
  have hF : fOpen b = if kindOk ((b[0]).toNat : Int) = true then
      if vg3 (b.extract 1 b.size) = 0 then ((((b[0]).toNat : Int), vback (vget (bl (b.extract 1 b.size))).1, b.extract (1 + (vget (bl (b.extract 1 b.size))).2.1) b.size), 0) else (zRec, vg3 (b.extract 1 b.size))
    else (zRec, 3) := by
    unfold fOpen vg3
    rw [bl_tail, bl_head b h1]
    split
    · by_cases he : (vget ((bl b).drop 1)).2.2 = 0
      · rw [if_pos he, if_pos (by exact_mod_cast he)]
      · rw [if_neg he, if_neg (by exact_mod_cast he)]
    · rfl
  have HGI := hid' (fun w => varint_GetInt (b.extract 1 b.size) w (by simp; unfold maxLen; omega))
  have HK := hid' (fun w => frame_Kind ((b[0]).toNat : Int) w)
  have hxs : (b.extract 1 b.size).size = b.size - 1 := by simp
  have hone := vget_one (bl (b.extract 1 b.size)) (vget (bl (b.extract 1 b.size))).1 (vget (bl (b.extract 1 b.size))).2.1
  have hk3 := vg3_kind (b.extract 1 b.size)
  have e2 : vg2 (b.extract 1 b.size) = ((vget (bl (b.extract 1 b.size))).2.1 : Int) := rfl
  have e3 : vg3 (b.extract 1 b.size) = ((vget (bl (b.extract 1 b.size))).2.2 : Int) := rfl
  rw [bl_len, hxs] at hone
  by_cases hk : kindOk ((b[0]).toNat : Int) = true
  · rw [hk] at HK
    rw [if_pos hk] at hF
    by_cases h0 : vg3 (b.extract 1 b.size) = 0
    · rw [if_pos h0] at hF
      have hd := (hone (by
        have : (vget (bl (b.extract 1 b.size))).2.2 = 0 := by rw [e3] at h0; exact_mod_cast h0
        rw [← this])).2.2
      rw [h0, e2] at HGI
      rw [hF]
      clear hF hone hk3 e2 e3 h0 hk hxs
      generalize (vget (bl (b.extract 1 b.size))).2.1 = d at *
      generalize (vget (bl (b.extract 1 b.size))).1 = m at *
      obtain ⟨q, hq⟩ : ∃ q, q = 1 + d := ⟨_, rfl⟩
      have hqI : (1 : Int) + (d : Int) = (q : Int) := by omega
      have hqw : IntKind.i64.wrap (q : Int) = (q : Int) := by rw [IntKind.wrap_i64]; omega
      have hq0 : (0 : Int) ≤ (q : Int) := by omega
      have hqb : (q : Int) ≤ (b.size : Int) := by omega
      rw [← hq]
      clear hq
      unfold recV
      simp only
      go_enter Try.func28, Try.ntmps28
      go_wp2_with (first
        | (go_at_call 19; (try rw [hcw]); refine (HK.out _).mono ?_; rintro e w' ⟨rfl, rfl⟩)
        | (go_at_call 13; refine (HGI.out _).mono ?_; rintro e w' ⟨rfl, rfl⟩))
      go_region
      all_goals
        go_wp2
        (try simp only [Exit.inBlock, Exit.then])
        refine bodyPost_ret (v := .tuple #[.agg #[.int .i64 ((b[0]).toNat : Int), .int .i64 (vback m), .string (b.extract q b.size)], .int .i64 0]) ?_ rfl ⟨rfl, (by repeat (first | assumption | apply bel_alloc | apply bel_drewN | apply bel_drew | exact bel_refl _))⟩
        rw [results_cell_tmp rfl]; go_simp
    · rw [if_neg h0] at hF
      have hk3 := hk3.resolve_left h0
      rw [hF]
      clear hF hone e2 e3 h0 hk hxs
      rcases hk3 with h | h
      all_goals
        rw [h] at HGI ⊢
        unfold recV
        simp only [zRec]
        go_enter Try.func28, Try.ntmps28
        go_wp2_with (first
          | (go_at_call 19; (try rw [hcw]); refine (HK.out _).mono ?_; rintro e w' ⟨rfl, rfl⟩)
          | (go_at_call 13; refine (HGI.out _).mono ?_; rintro e w' ⟨rfl, rfl⟩))
        (try simp only [Exit.inBlock, Exit.then])
        refine bodyPost_ret (v := .tuple #[.agg #[.int .i64 0, .int .i64 0, .string ⟨#[]⟩], .int .i64 _]) ?_ rfl ⟨rfl, (by repeat (first | assumption | apply bel_alloc | apply bel_drewN | apply bel_drew | exact bel_refl _))⟩
        rw [results_cell_tmp rfl]; go_simp
  · rw [show kindOk ((b[0]).toNat : Int) = false by simpa using hk] at HK
    rw [if_neg hk] at hF
    rw [hF]
    clear hF hone hk3 e2 e3 hk hxs
    unfold recV
    simp only [zRec]
    go_enter Try.func28, Try.ntmps28
    go_wp2_with (go_at_call 19; (try rw [hcw]); refine (HK.out _).mono ?_; rintro e w' ⟨rfl, rfl⟩)
    (try simp only [Exit.inBlock, Exit.then])
    refine bodyPost_ret (v := .tuple #[.agg #[.int .i64 0, .int .i64 0, .string ⟨#[]⟩], .int .i64 3]) ?_ rfl ⟨rfl, (by repeat (first | assumption | apply bel_alloc | apply bel_drewN | apply bel_drew | exact bel_refl _))⟩
    rw [results_cell_tmp rfl]; go_simp
end Go.Proofs.Yteifpdpppndipaa
