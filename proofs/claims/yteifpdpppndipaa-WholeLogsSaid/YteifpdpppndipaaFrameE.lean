
/- frame.Get. No condition. -/
import Derived.Test.YteifpdpppndipaaFrameD
namespace Go.Proofs.Yteifpdpppndipaa
set_option maxRecDepth 100000
set_option linter.unusedSimpArgs false
open Go.RowKit
set_option linter.unusedVariables false
set_option linter.unusedSimpArgs false

theorem results_cell_tmp2 {fn : Func} {p u x : Tmp} {ty : TypeId} (h : fn.results = #[.cell p ty, .tmp u, .tmp x]) (tmps : Array Value) (P : Program) (w : World) :
    (results fn tmps).run P w =
      ((asAddr (tmps.getD p undef)).run P w).andThen fun a w₁ => ((loadVar ty a).run P w₁).andThen fun v w₂ => .ok (.tuple #[v, tmps.getD u undef, tmps.getD x undef]) w₂ := by
  simp only [results, h]
  simp [Sem.run_bind, Result.andThen]
theorem open_kind (b : ByteArray) : (fOpen b).2 = 0 ∨ (fOpen b).2 = 1 ∨ (fOpen b).2 = 2 ∨ (fOpen b).2 = 3 := by
  unfold fOpen
  split
  · split
    · exact .inl rfl
    · have := vgetFrom_kind ((bl b).drop 1) 0 0
      have : (vget ((bl b).drop 1)).2.2 = 0 ∨ (vget ((bl b).drop 1)).2.2 = 1 ∨ (vget ((bl b).drop 1)).2.2 = 2 := this
      rcases this with h | h | h <;> rw [h] <;> simp
  · exact .inr (.inr (.inr rfl))
set_option maxHeartbeats 2000000 in
theorem frame_Get (s : ByteArray) (w : World) (hs : s.size ≤ 200000) :
    Calls Try.prog 24 #[.string s] w fun e w' => e = .returned (.tuple #[recV (fGet s).1, .int .i64 (fGet s).2.1, .int .i64 (fGet s).2.2]) ∧ Below w.heap.size w w' := by
  have hz : (zeroValue 40).run Try.prog w = .ok (.agg #[.int .i64 0, .int .i64 0, .string ⟨#[]⟩]) w := by kernel_rfl
  have hlen : s.size ≤ 9223372036854775807 := by omega
  have HG := hid' (fun w => varint_Get s w (by unfold maxLen; omega))
  have e1 : vg1 s = ((vget (bl s)).1 : Int) := rfl
  have e2 : vg2 s = ((vget (bl s)).2.1 : Int) := rfl
  have e3 : vg3 s = ((vget (bl s)).2.2 : Int) := rfl
  have hk3 := vg3_kind s
  have hone := vget_one (bl s) (vget (bl s)).1 (vget (bl s)).2.1
  have hlt := vgetFrom_lt (bl s) 0 0 (by decide)
  have hlt : (vget (bl s)).1 < 18446744073709551616 := hlt
  rw [bl_len] at hone
  obtain ⟨R, hR⟩ : ∃ R, R = fGet s := ⟨_, rfl⟩
  rw [← hR]
  unfold fGet at hR
  by_cases h0 : (vget (bl s)).2.2 = 0
  · rw [if_pos h0] at hR
    have hm := (hone (by rw [← h0])).2.2
    rw [e1, e2, e3, h0] at HG
    clear e1 e2 e3 hk3 hone h0
    generalize (vget (bl s)).2.1 = m at *
    generalize (vget (bl s)).1 = q at *
    by_cases hq1 : q < 2
    · rw [if_pos (.inl hq1)] at hR
      subst hR
      unfold recV
      simp only [zRec]
      go_enter Try.func24, Try.ntmps24
      go_wp2_with (go_at_call 14; refine (HG.out _).mono ?_; rintro e w' ⟨rfl, rfl⟩)
      all_goals first | (exfalso; omega) | skip
      (try simp only [Exit.inBlock, Exit.then])
      refine bodyPost_ret (v := .tuple #[.agg #[.int .i64 0, .int .i64 0, .string ⟨#[]⟩], .int .i64 0, .int .i64 4]) ?_ rfl ⟨rfl, ?_⟩
      · rw [results_cell_tmp2 rfl]; go_simp
      · exact (by repeat (first | assumption | apply bel_alloc | apply bel_drewN | apply bel_drew | exact bel_refl _))
    by_cases hq2 : 65536 < q
    · rw [if_pos (.inr hq2)] at hR
      subst hR
      unfold recV
      simp only [zRec]
      go_enter Try.func24, Try.ntmps24
      go_wp2_with (go_at_call 14; refine (HG.out _).mono ?_; rintro e w' ⟨rfl, rfl⟩)
      all_goals first | (exfalso; omega) | skip
      (try simp only [Exit.inBlock, Exit.then])
      refine bodyPost_ret (v := .tuple #[.agg #[.int .i64 0, .int .i64 0, .string ⟨#[]⟩], .int .i64 0, .int .i64 4]) ?_ rfl ⟨rfl, ?_⟩
      · rw [results_cell_tmp2 rfl]; go_simp
      · exact (by repeat (first | assumption | apply bel_alloc | apply bel_drewN | apply bel_drew | exact bel_refl _))
    rw [if_neg (by omega)] at hR
    obtain ⟨mq, hmq⟩ : ∃ mq, mq = m + q := ⟨_, rfl⟩
    obtain ⟨E, hE⟩ : ∃ E, E = mq + 4 := ⟨_, rfl⟩
    have i1 : (m : Int) + (q : Int) = (mq : Int) := by omega
    have i2 : (mq : Int) + 4 = (E : Int) := by omega
    have hwq : wrap64 (q : Int) = (q : Int) := by unfold wrap64; omega
    rw [show m + q + 4 = E by omega] at hR
    have hmE : m ≤ E := by omega
    have hxs0 : s.size < E ∨ (s.extract m E).size = q + 4 := by simp; omega
    have hEb : E ≤ 300004 := by omega
    clear hmq hE
    by_cases hend : s.size < E
    · rw [if_pos hend] at hR
      subst hR
      unfold recV
      simp only [zRec]
      go_enter Try.func24, Try.ntmps24
      go_wp2_with (go_at_call 14; refine (HG.out _).mono ?_; rintro e w' ⟨rfl, rfl⟩)
      all_goals first | (exfalso; omega) | skip
      (try simp only [Exit.inBlock, Exit.then])
      refine bodyPost_ret (v := .tuple #[.agg #[.int .i64 0, .int .i64 0, .string ⟨#[]⟩], .int .i64 0, .int .i64 1]) ?_ rfl ⟨rfl, ?_⟩
      · rw [results_cell_tmp2 rfl]; go_simp
      · exact (by repeat (first | assumption | apply bel_alloc | apply bel_drewN | apply bel_drew | exact bel_refl _))
    rw [if_neg hend] at hR
    have hxs := hxs0.resolve_left hend
    have j1 : (0 : Int) ≤ (m : Int) := by omega
    have j2 : (m : Int) ≤ (E : Int) := by omega
    have j3 : (E : Int) ≤ (s.size : Int) := by omega
    have hS : copS (s.extract m E) = match copen (s.extract m E) with | some x => .string x | none => .string ⟨#[]⟩ := rfl
    have hB : copB (s.extract m E) = (copen (s.extract m E)).isSome := rfl
    have HO := hid' (fun g w hg => crc_Open g (s.extract m E) w (by omega) hg)
    rw [hS, hB] at HO
    cases hop : copen (s.extract m E) with
    | none =>
      rw [hop] at hR HO
      simp only at hR HO
      subst hR
      unfold recV
      simp only [zRec, Option.isSome_none] at HO ⊢
      go_enter Try.func24, Try.ntmps24
      go_wp2_with (go_at_call 14; refine (HG.out _).mono ?_; rintro e w' ⟨rfl, rfl⟩)
      all_goals first | (exfalso; omega) | skip
      have hbk := Blk.new_ w 40 #[.int .i64 0, .int .i64 0, .string ⟨#[]⟩]
      have hB1 := bel_alloc (bel_refl w) (.cells #[.int .i64 0, .int .i64 0, .string ⟨#[]⟩] 40)
      generalize w.alloc (.cells #[.int .i64 0, .int .i64 0, .string ⟨#[]⟩] 40) = w1 at *
      generalize hB0 : w.heap.size = b0 at *
      have HB0 := hid' hB0
      have HB1 := hid' hB1
      have HBK := hid' hbk
      clear hB0 hB1 hbk hz hxs0 hS hB
      go_region_with (first
        | (go_at_call 20; refine (crc_New _).mono ?_; rintro e w5 ⟨g, rfl, hgl, hgN, hB5⟩)
        | (go_at_call 27; refine (HO.out g _ hgN).mono ?_; rintro e w6 ⟨rfl, hB6⟩
           have HK6 := hid' ((HBK.out.drew.below hB5).below hB6)
           have HL6 := hid' (show Below b0 w w6 from HB1.out.trans ((bel_then (bel_then (bel_drew (bel_refl w1)) hB5) hB6).mono (by have := HB1.out.size; have := HB0.out; omega)))
           have c0 : w6.cell? ⟨b0, 0, none⟩ = some (.int .i64 0) := by simpa using HK6.out.cell 0
           have c1 : w6.cell? ⟨b0, 1, none⟩ = some (.int .i64 0) := by simpa using HK6.out.cell 1
           have c2 : w6.cell? ⟨b0, 2, none⟩ = some (.string ⟨#[]⟩) := by simpa using HK6.out.cell 2
           have f0 := HK6.out.frozen 0
           have f1 := HK6.out.frozen 1
           have f2 := HK6.out.frozen 2
           clear hB5 hB6 hgl hgN))
      go_wp2
      all_goals
        (try simp only [Exit.inBlock, Exit.then])
        refine bodyPost_ret (v := .tuple #[.agg #[.int .i64 0, .int .i64 0, .string ⟨#[]⟩], .int .i64 0, .int .i64 5]) ?_ rfl ⟨rfl, ?_⟩
        · rw [results_cell_tmp2 rfl]; go_simp
        · rw [HB0.out]; repeat (first | exact HL6.out | refine Below.setCell ?_ (by exact Nat.le_refl _) _ | refine Below.alloc ?_ (by have := HL6.out.size; have := HB0.out; omega) _)
    | some b =>
      rw [hop] at hR HO
      simp only at hR HO
      have hbs := (copen_some hop).2
      have HOp := hid' (fun w => frame_open b w (by omega) (by omega))
      have hkk := open_kind b
      obtain ⟨⟨k2, t2, x2⟩, f, hfo⟩ : ∃ r f, fOpen b = (r, f) := ⟨_, _, rfl⟩
      rw [hfo] at HOp hR hkk
      simp only at HOp hR hkk
      unfold recV at HOp
      simp only at HOp
      have h2b : b.size = q := by omega
      by_cases hf : f = 0
      · rw [if_pos hf] at hR
        subst hf
        subst hR
        unfold recV
        simp only [Option.isSome_some] at HO ⊢
        go_enter Try.func24, Try.ntmps24
        go_wp2_with (go_at_call 14; refine (HG.out _).mono ?_; rintro e w' ⟨rfl, rfl⟩)
        all_goals first | (exfalso; omega) | skip
        have hbk := Blk.new_ w 40 #[.int .i64 0, .int .i64 0, .string ⟨#[]⟩]
        have hB1 := bel_alloc (bel_refl w) (.cells #[.int .i64 0, .int .i64 0, .string ⟨#[]⟩] 40)
        generalize w.alloc (.cells #[.int .i64 0, .int .i64 0, .string ⟨#[]⟩] 40) = w1 at *
        generalize hB0 : w.heap.size = b0 at *
        have HB0 := hid' hB0
        have HB1 := hid' hB1
        have HBK := hid' hbk
        clear hB0 hB1 hbk hz hxs0 hS hB
        go_region_with (first
          | (go_at_call 20; refine (crc_New _).mono ?_; rintro e w5 ⟨g, rfl, hgl, hgN, hB5⟩)
          | (go_at_call 27; refine (HO.out g _ hgN).mono ?_; rintro e w6 ⟨rfl, hB6⟩
             have HK6 := hid' ((HBK.out.drew.below hB5).below hB6)
             have HL6 := hid' (show Below b0 w w6 from HB1.out.trans ((bel_then (bel_then (bel_drew (bel_refl w1)) hB5) hB6).mono (by have := HB1.out.size; have := HB0.out; omega)))
             have c0 : w6.cell? ⟨b0, 0, none⟩ = some (.int .i64 0) := by simpa using HK6.out.cell 0
             have c1 : w6.cell? ⟨b0, 1, none⟩ = some (.int .i64 0) := by simpa using HK6.out.cell 1
             have c2 : w6.cell? ⟨b0, 2, none⟩ = some (.string ⟨#[]⟩) := by simpa using HK6.out.cell 2
             have f0 := HK6.out.frozen 0
             have f1 := HK6.out.frozen 1
             have f2 := HK6.out.frozen 2
             clear hB5 hB6 hgl hgN))
        go_wp2_with (
             go_at_call 28; refine (HOp.out _).mono ?_; rintro e w7 ⟨rfl, hB7⟩
             have HK7 := hid' (HK6.out.below hB7)
             have hltb := HK7.out.lt
             have hne : b0 ≠ w7.heap.size := by omega
             have hne' : w7.heap.size ≠ b0 := by omega
             have HL7 := hid' (show Below b0 w w7 from HL6.out.trans (hB7.mono (by have := HL6.out.size; have := HB0.out; omega)))
             clear c0 c1 c2 f0 f1 f2
             have c0 : w7.cell? ⟨b0, 0, none⟩ = some (.int .i64 0) := by simpa using HK7.out.cell 0
             have c1 : w7.cell? ⟨b0, 1, none⟩ = some (.int .i64 0) := by simpa using HK7.out.cell 1
             have c2 : w7.cell? ⟨b0, 2, none⟩ = some (.string ⟨#[]⟩) := by simpa using HK7.out.cell 2
             have f0 := HK7.out.frozen 0
             have f1 := HK7.out.frozen 1
             have f2 := HK7.out.frozen 2
             clear hB7)
        all_goals
          (try simp only [Exit.inBlock, Exit.then])
          refine bodyPost_ret (v := .tuple #[.agg #[.int .i64 k2, .int .i64 t2, .string x2], .int .i64 E, .int .i64 0]) ?_ rfl ⟨rfl, ?_⟩
          · rw [results_cell_tmp2 rfl]; go_simp
          · rw [HB0.out]; repeat (first | exact HL7.out | refine Below.setCell ?_ (by exact Nat.le_refl _) _ | refine Below.alloc ?_ (by have := HL7.out.size; have := HB0.out; (try simp); omega) _)
      · rw [if_neg hf] at hR
        subst hR
        have n1 : (f != 0) = true := by simp [hf]
        unfold recV
        simp only [Option.isSome_some, zRec] at HO ⊢
        clear hf hkk
        go_enter Try.func24, Try.ntmps24
        go_wp2_with (go_at_call 14; refine (HG.out _).mono ?_; rintro e w' ⟨rfl, rfl⟩)
        all_goals first | (exfalso; omega) | skip
        have hbk := Blk.new_ w 40 #[.int .i64 0, .int .i64 0, .string ⟨#[]⟩]
        have hB1 := bel_alloc (bel_refl w) (.cells #[.int .i64 0, .int .i64 0, .string ⟨#[]⟩] 40)
        generalize w.alloc (.cells #[.int .i64 0, .int .i64 0, .string ⟨#[]⟩] 40) = w1 at *
        generalize hB0 : w.heap.size = b0 at *
        have HB0 := hid' hB0
        have HB1 := hid' hB1
        have HBK := hid' hbk
        clear hB0 hB1 hbk hz hxs0 hS hB
        go_region_with (first
          | (go_at_call 20; refine (crc_New _).mono ?_; rintro e w5 ⟨g, rfl, hgl, hgN, hB5⟩)
          | (go_at_call 27; refine (HO.out g _ hgN).mono ?_; rintro e w6 ⟨rfl, hB6⟩
             have HK6 := hid' ((HBK.out.drew.below hB5).below hB6)
             have HL6 := hid' (show Below b0 w w6 from HB1.out.trans ((bel_then (bel_then (bel_drew (bel_refl w1)) hB5) hB6).mono (by have := HB1.out.size; have := HB0.out; omega)))
             have c0 : w6.cell? ⟨b0, 0, none⟩ = some (.int .i64 0) := by simpa using HK6.out.cell 0
             have c1 : w6.cell? ⟨b0, 1, none⟩ = some (.int .i64 0) := by simpa using HK6.out.cell 1
             have c2 : w6.cell? ⟨b0, 2, none⟩ = some (.string ⟨#[]⟩) := by simpa using HK6.out.cell 2
             have f0 := HK6.out.frozen 0
             have f1 := HK6.out.frozen 1
             have f2 := HK6.out.frozen 2
             clear hB5 hB6 hgl hgN))
        go_wp2_with (
             go_at_call 28; refine (HOp.out _).mono ?_; rintro e w7 ⟨rfl, hB7⟩
             have HK7 := hid' (HK6.out.below hB7)
             have hltb := HK7.out.lt
             have hne : b0 ≠ w7.heap.size := by omega
             have hne' : w7.heap.size ≠ b0 := by omega
             have HL7 := hid' (show Below b0 w w7 from HL6.out.trans (hB7.mono (by have := HL6.out.size; have := HB0.out; omega)))
             clear c0 c1 c2 f0 f1 f2
             have c0 : w7.cell? ⟨b0, 0, none⟩ = some (.int .i64 0) := by simpa using HK7.out.cell 0
             have c1 : w7.cell? ⟨b0, 1, none⟩ = some (.int .i64 0) := by simpa using HK7.out.cell 1
             have c2 : w7.cell? ⟨b0, 2, none⟩ = some (.string ⟨#[]⟩) := by simpa using HK7.out.cell 2
             have f0 := HK7.out.frozen 0
             have f1 := HK7.out.frozen 1
             have f2 := HK7.out.frozen 2
             clear hB7)
        all_goals
          (try simp only [Exit.inBlock, Exit.then])
          refine bodyPost_ret (v := .tuple #[.agg #[.int .i64 0, .int .i64 0, .string ⟨#[]⟩], .int .i64 0, .int .i64 f]) ?_ rfl ⟨rfl, ?_⟩
          · rw [results_cell_tmp2 rfl]; go_simp
          · rw [HB0.out]; repeat (first | exact HL7.out | refine Below.setCell ?_ (by exact Nat.le_refl _) _ | refine Below.alloc ?_ (by have := HL7.out.size; have := HB0.out; (try simp); omega) _)
  · rw [if_neg h0] at hR
    have hk3 := hk3.resolve_left (by rw [e3]; omega)
    rw [← e3] at hR
    clear e1 e2 e3 hone h0 hlt
    subst hR
    rcases hk3 with h | h
    all_goals
      rw [h] at HG ⊢
      unfold recV
      simp only [zRec]
      go_enter Try.func24, Try.ntmps24
      go_wp2_with (go_at_call 14; refine (HG.out _).mono ?_; rintro e w' ⟨rfl, rfl⟩)
      (try simp only [Exit.inBlock, Exit.then])
      refine bodyPost_ret (v := .tuple #[.agg #[.int .i64 0, .int .i64 0, .string ⟨#[]⟩], .int .i64 0, .int .i64 _]) ?_ rfl ⟨rfl, ?_⟩
      · rw [results_cell_tmp2 rfl]; go_simp
      · exact (by repeat (first | assumption | apply bel_alloc | apply bel_drewN | apply bel_drew | exact bel_refl _))
end Go.Proofs.Yteifpdpppndipaa
