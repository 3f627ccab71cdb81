
/- The reference of frame.Get, walked. No condition. -/
import Derived.Test.YtioaijjmialdoaaGreatDoorFrameGA
namespace Go.Proofs.YtioaijjmialdoaaGreatDoor
set_option maxRecDepth 100000
set_option linter.unusedSimpArgs false
open Go.RowKit
set_option linter.unusedVariables false
set_option linter.unusedSimpArgs false
def gotV (g : Rec × Int × Int) : Value := .agg #[.int .i64 g.1.1, .int .i64 g.1.2.1, .string g.1.2.2, .int .i64 g.2.1, .int .i64 g.2.2]
theorem open_eq (b : ByteArray) (h1 : 0 < b.size) : fOpen b = if kindOk ((b[0]).toNat : Int) = true then
      if vg3 (b.extract 1 b.size) = 0 then ((((b[0]).toNat : Int), vback (vget (bl (b.extract 1 b.size))).1, b.extract (1 + (vget (bl (b.extract 1 b.size))).2.1) b.size), 0) else (zRec, vg3 (b.extract 1 b.size))
    else (zRec, 3) := by
  unfold fOpen vg3
  rw [bl_tail, bl_head b h1]
  split
  · by_cases he : (vget ((bl b).drop 1)).2.2 = 0
    · rw [if_pos he, if_pos (by exact_mod_cast he)]
    · rw [if_neg he, if_neg (by exact_mod_cast he)]
  · rfl
set_option maxHeartbeats 2000000 in
theorem ref05_Get (s : ByteArray) (w : World) (hs : s.size ≤ 200000) :
    Calls Tryz.prog 21 #[.string s] w fun e w' => e = .returned (gotV (fGet s)) ∧ Below w.heap.size w w' := by
  have hz : (zeroValue 66).run Tryz.prog w = .ok (.agg #[.int .i64 0, .int .i64 0, .string ⟨#[]⟩, .int .i64 0, .int .i64 0]) w := by kernel_rfl
  have hlen : s.size ≤ 9223372036854775807 := by omega
  have HG := hid' (fun w => ref02_Get s w (by unfold maxLen; omega))
  have e1 : vg1 s = ((vget (bl s)).1 : Int) := rfl
  have e2 : vg2 s = ((vget (bl s)).2.1 : Int) := rfl
  have e3 : vg3 s = ((vget (bl s)).2.2 : Int) := rfl
  have hk3 := vg3_kind s
  have hone := vget_one (bl s) (vget (bl s)).1 (vget (bl s)).2.1
  have hlt := vgetFrom_lt (bl s) 0 0 (by decide)
  have hlt : (vget (bl s)).1 < 18446744073709551616 := hlt
  rw [bl_len] at hone
  obtain ⟨R, hR⟩ : ∃ R, R = fGet s := ⟨_, rfl⟩
  rw [← hR]
  unfold fGet at hR
  by_cases h0 : (vget (bl s)).2.2 = 0
  · rw [if_pos h0] at hR
    have hm := (hone (by rw [← h0])).2.2
    rw [e1, e2, e3, h0] at HG
    clear e1 e2 e3 hk3 hone h0
    generalize (vget (bl s)).2.1 = m at *
    generalize (vget (bl s)).1 = q at *
    by_cases hq1 : q < 2
    · rw [if_pos (.inl hq1)] at hR
      subst hR
      unfold gotV
      simp only [zRec]
      go_enter Tryz.func21, Tryz.ntmps21
      go_wp2_with (go_at_call 32; refine (HG.out _).mono ?_; rintro e w' ⟨rfl, rfl⟩)
      all_goals first | (exfalso; omega) | skip
      (try simp only [Exit.inBlock, Exit.then])
      refine bodyPost_ret (v := .agg #[.int .i64 0, .int .i64 0, .string ⟨#[]⟩, .int .i64 0, .int .i64 4]) ?_ rfl ⟨rfl, ?_⟩
      · rw [results_cell1 rfl]; go_simp
      · exact (by repeat (first | assumption | apply bel_alloc | apply bel_drewN | apply bel_drew | exact bel_refl _))
    by_cases hq2 : 65536 < q
    · rw [if_pos (.inr hq2)] at hR
      subst hR
      unfold gotV
      simp only [zRec]
      go_enter Tryz.func21, Tryz.ntmps21
      go_wp2_with (go_at_call 32; refine (HG.out _).mono ?_; rintro e w' ⟨rfl, rfl⟩)
      all_goals first | (exfalso; omega) | skip
      (try simp only [Exit.inBlock, Exit.then])
      refine bodyPost_ret (v := .agg #[.int .i64 0, .int .i64 0, .string ⟨#[]⟩, .int .i64 0, .int .i64 4]) ?_ rfl ⟨rfl, ?_⟩
      · rw [results_cell1 rfl]; go_simp
      · exact (by repeat (first | assumption | apply bel_alloc | apply bel_drewN | apply bel_drew | exact bel_refl _))
    rw [if_neg (by omega)] at hR
    obtain ⟨mq, hmq⟩ : ∃ mq, mq = m + q := ⟨_, rfl⟩
    obtain ⟨E, hE⟩ : ∃ E, E = mq + 4 := ⟨_, rfl⟩
    have i1 : (m : Int) + (q : Int) = (mq : Int) := by omega
    have i2 : (mq : Int) + 4 = (E : Int) := by omega
    have hwq : wrap64 (q : Int) = (q : Int) := by unfold wrap64; omega
    have hcx : E ≤ s.size → copen (s.extract m E) = if cseal (s.extract m mq) = s.extract m E then some (s.extract m mq) else none := fun h => by
      have := copen_ext s m q (by omega)
      rw [show m + q + 4 = E by omega, show m + q = mq by omega] at this
      exact this
    rw [show m + q + 4 = E by omega] at hR
    have hxs0 : s.size < E ∨ ((s.extract m E).size = q + 4 ∧ (s.extract m mq).size = q) := by simp; omega
    have hEb : E ≤ 300004 := by omega
    have j1 : (0 : Int) ≤ (m : Int) := by omega
    have j2 : (m : Int) ≤ (E : Int) := by omega
    have j4 : (m : Int) ≤ (mq : Int) := by omega
    have j5 : (mq : Int) ≤ (E : Int) := by omega
    clear hmq hE
    by_cases hend : s.size < E
    · rw [if_pos hend] at hR
      subst hR
      unfold gotV
      simp only [zRec]
      go_enter Tryz.func21, Tryz.ntmps21
      go_wp2_with (go_at_call 32; refine (HG.out _).mono ?_; rintro e w' ⟨rfl, rfl⟩)
      all_goals first | (exfalso; omega) | skip
      (try simp only [Exit.inBlock, Exit.then])
      refine bodyPost_ret (v := .agg #[.int .i64 0, .int .i64 0, .string ⟨#[]⟩, .int .i64 0, .int .i64 1]) ?_ rfl ⟨rfl, ?_⟩
      · rw [results_cell1 rfl]; go_simp
      · exact (by repeat (first | assumption | apply bel_alloc | apply bel_drewN | apply bel_drew | exact bel_refl _))
    rw [if_neg hend, hcx (by omega)] at hR
    obtain ⟨hx1, hx2⟩ := hxs0.resolve_left hend
    have j3 : (E : Int) ≤ (s.size : Int) := by omega
    have j6 : (mq : Int) ≤ (s.size : Int) := by omega
    have HS := hid' (fun w => ref03_Seal (s.extract m mq) w (by omega))
    have hw1 : IntKind.i64.wrap (mq : Int) = (mq : Int) := by rw [IntKind.wrap_i64]; omega
    have hw2 : IntKind.i64.wrap (E : Int) = (E : Int) := by rw [IntKind.wrap_i64]; omega
    clear hcx
    by_cases he : cseal (s.extract m mq) = s.extract m E
    · rw [if_pos he] at hR
      simp only at hR
      rw [he] at HS
      have hb1 : 0 < (s.extract m mq).size := by omega
      have hF := open_eq (s.extract m mq) hb1
      rw [hx2] at hF
      have HG2 := hid' (fun w => ref02_Get ((s.extract m mq).extract 1 q) w (by rw [ByteArray.size_extract]; unfold maxLen; omega))
      have hk3 := vg3_kind ((s.extract m mq).extract 1 q)
      have hlt2 := vgetFrom_lt (bl ((s.extract m mq).extract 1 q)) 0 0 (by decide)
      have hlt2 : (vget (bl ((s.extract m mq).extract 1 q))).1 < 18446744073709551616 := hlt2
      have hone2 := vget_one (bl ((s.extract m mq).extract 1 q)) (vget (bl ((s.extract m mq).extract 1 q))).1 (vget (bl ((s.extract m mq).extract 1 q))).2.1
      have f1 : vg1 ((s.extract m mq).extract 1 q) = ((vget (bl ((s.extract m mq).extract 1 q))).1 : Int) := rfl
      have f2 : vg2 ((s.extract m mq).extract 1 q) = ((vget (bl ((s.extract m mq).extract 1 q))).2.1 : Int) := rfl
      have f3 : vg3 ((s.extract m mq).extract 1 q) = ((vget (bl ((s.extract m mq).extract 1 q))).2.2 : Int) := rfl
      have hxs2 : ((s.extract m mq).extract 1 q).size = q - 1 := by rw [ByteArray.size_extract]; omega
      rw [bl_len, hxs2] at hone2
      clear he
      by_cases hk : kindOk (((s.extract m mq)[0]).toNat : Int) = true
      · rw [if_pos hk] at hF
        have hkk := kindOk_two hk
        by_cases h0 : vg3 ((s.extract m mq).extract 1 q) = 0
        · rw [if_pos h0] at hF
          rw [hF] at hR
          simp only [if_true] at hR
          rw [hR]
          have hd := (hone2 (by
            have : (vget (bl ((s.extract m mq).extract 1 q))).2.2 = 0 := by rw [f3] at h0; exact_mod_cast h0
            rw [← this])).2.2
          rw [h0, f1, f2] at HG2
          exact ref05_yes s m q mq E w HG HS hlen hq1 hq2 i1 i2 hwq hEb j1 j2 j4 j5 hend hx1 hx2 j3 j6 hw1 hw2 hb1 _ rfl hkk _ _ (1 + (vget (bl ((s.extract m mq).extract 1 q))).2.1) hlt2 HG2 (by omega) (by rw [IntKind.wrap_i64]; omega) (by omega) (by omega)
        · rw [if_neg h0] at hF
          rw [hF] at hR
          simp only at hR
          rw [if_neg h0] at hR
          rw [hR]
          exact ref05_fall s m q mq E w HG HS hlen hq1 hq2 i1 i2 hwq hEb j1 j2 j4 j5 hend hx1 hx2 j3 j6 hw1 hw2 hb1 _ rfl hkk _ _ _ HG2 (by simpa using h0)
      · obtain ⟨hc1, hc2⟩ := kindOk_not hk
        rw [if_neg hk] at hF
        rw [hF] at hR
        simp only at hR
        rw [if_neg (by decide)] at hR
        rw [hR]
        exact ref05_no s m q mq E w HG HS hlen hq1 hq2 i1 i2 hwq hEb j1 j2 j4 j5 hend hx1 hx2 j3 j6 hw1 hw2 hb1 (by simpa using hc1) (by simpa using hc2)
    · rw [if_neg he] at hR
      simp only at hR
      have hne : ((cseal (s.extract m mq)).toList == (s.extract m E).toList) = false := by
        rw [beq_eq_false_iff_ne]; exact fun h => he (str_ext h)
      clear he
      generalize cseal (s.extract m mq) = t at *
      subst hR
      unfold gotV
      simp only [zRec]
      go_enter Tryz.func21, Tryz.ntmps21
      go_wp2_with (go_at_call 32; refine (HG.out _).mono ?_; rintro e w' ⟨rfl, rfl⟩)
      all_goals first | (exfalso; omega) | skip
      have hbk := Blk.new_ w 66 #[.int .i64 0, .int .i64 0, .string ⟨#[]⟩, .int .i64 0, .int .i64 0]
      have hB1 := bel_alloc (bel_refl w) (.cells #[.int .i64 0, .int .i64 0, .string ⟨#[]⟩, .int .i64 0, .int .i64 0] 66)
      generalize w.alloc (.cells #[.int .i64 0, .int .i64 0, .string ⟨#[]⟩, .int .i64 0, .int .i64 0] 66) = w1 at *
      generalize hB0 : w.heap.size = b0 at *
      have HB0 := hid' hB0
      have HB1 := hid' hB1
      have HBK := hid' hbk
      clear hB0 hB1 hbk hz hxs0
      go_region_with (
        go_at_call 33; refine (HS.out _).mono ?_; rintro e w6 ⟨rfl, hB6⟩
        have HK6 := hid' (HBK.out.drew.below hB6)
        have HL6 := hid' (show Below b0 w w6 from HB1.out.trans ((bel_then (bel_drew (bel_refl w1)) hB6).mono (by have := HB1.out.size; have := HB0.out; omega)))
        have c0 : w6.cell? ⟨b0, 0, none⟩ = some (.int .i64 0) := by simpa using HK6.out.cell 0
        have c1 : w6.cell? ⟨b0, 1, none⟩ = some (.int .i64 0) := by simpa using HK6.out.cell 1
        have c2 : w6.cell? ⟨b0, 2, none⟩ = some (.string ⟨#[]⟩) := by simpa using HK6.out.cell 2
        have c3 : w6.cell? ⟨b0, 3, none⟩ = some (.int .i64 0) := by simpa using HK6.out.cell 3
        have c4 : w6.cell? ⟨b0, 4, none⟩ = some (.int .i64 0) := by simpa using HK6.out.cell 4
        have f0 := HK6.out.frozen 0
        have f1 := HK6.out.frozen 1
        have f2 := HK6.out.frozen 2
        have f3 := HK6.out.frozen 3
        have f4 := HK6.out.frozen 4
        clear hB6)
      all_goals
        go_wp2
        (try simp only [Exit.inBlock, Exit.then])
        refine bodyPost_ret (v := .agg #[.int .i64 0, .int .i64 0, .string ⟨#[]⟩, .int .i64 0, .int .i64 5]) ?_ rfl ⟨rfl, ?_⟩
        · rw [results_cell1 rfl]; go_simp
        · rw [HB0.out]; repeat (first | exact HL6.out | refine Below.setCell ?_ (by exact Nat.le_refl _) _ | refine bel_drew ?_)
  · rw [if_neg h0] at hR
    have hk3 := hk3.resolve_left (by rw [e3]; omega)
    rw [← e3] at hR
    clear e1 e2 e3 hone h0 hlt
    subst hR
    rcases hk3 with h | h
    all_goals
      rw [h] at HG ⊢
      unfold gotV
      simp only [zRec]
      go_enter Tryz.func21, Tryz.ntmps21
      go_wp2_with (go_at_call 32; refine (HG.out _).mono ?_; rintro e w' ⟨rfl, rfl⟩)
      (try simp only [Exit.inBlock, Exit.then])
      refine bodyPost_ret (v := .agg #[.int .i64 0, .int .i64 0, .string ⟨#[]⟩, .int .i64 0, .int .i64 _]) ?_ rfl ⟨rfl, ?_⟩
      · rw [results_cell1 rfl]; go_simp
      · exact (by repeat (first | assumption | apply bel_alloc | apply bel_drewN | apply bel_drew | exact bel_refl _))
end Go.Proofs.YtioaijjmialdoaaGreatDoor
