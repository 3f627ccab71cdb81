
/- The reference of frame.Get behind its sum, walked. No condition. -/
import Derived.Test.YtioaijjmialdoaaGreatDoorPackV
import Derived.Test.YtioaijjmialdoaaGreatDoorFrameF
namespace Go.Proofs.YtioaijjmialdoaaGreatDoor
set_option maxRecDepth 100000
set_option linter.unusedSimpArgs false
open Go.RowKit
set_option linter.unusedVariables false
set_option linter.unusedSimpArgs false
theorem results_cell1 {fn : Func} {p : Tmp} {ty : TypeId} (h : fn.results = #[.cell p ty]) (tmps : Array Value) (P : Program) (w : World) :
    (results fn tmps).run P w = ((asAddr (tmps.getD p undef)).run P w).andThen fun a w₁ => (loadVar ty a).run P w₁ := by
  simp only [results, h]
  simp [Sem.run_bind, Result.andThen]
theorem below_drew' {b : Nat} {w W : World} (h : Below b w W) : Below b w W.drew := ⟨h.os, h.tape, h.output, h.size, h.block⟩
set_option maxHeartbeats 2000000 in
theorem ref05_no (s : ByteArray) (m q mq E : Nat) (w : World)
    (HG : Hid (∀ w, Calls Tryz.prog 32 #[.string s] w fun e w' => e = .returned (.tuple #[.int .u64 (q : Int), .int .i64 (m : Int), .int .i64 0]) ∧ w = w'))
    (HS : Hid (∀ w, Calls Tryz.prog 33 #[.string (s.extract m mq)] w fun e w' => e = .returned (.string (s.extract m E)) ∧ Below w.heap.size w w'))
    (hlen : s.size ≤ 9223372036854775807) (hq1 : ¬ q < 2) (hq2 : ¬ 65536 < q) (i1 : (m : Int) + (q : Int) = (mq : Int)) (i2 : (mq : Int) + 4 = (E : Int)) (hwq : wrap64 (q : Int) = (q : Int)) (hEb : E ≤ 300004)
    (j1 : (0 : Int) ≤ (m : Int)) (j2 : (m : Int) ≤ (E : Int)) (j4 : (m : Int) ≤ (mq : Int)) (j5 : (mq : Int) ≤ (E : Int)) (hend : ¬ s.size < E) (hx1 : (s.extract m E).size = q + 4) (hx2 : (s.extract m mq).size = q)
    (j3 : (E : Int) ≤ (s.size : Int)) (j6 : (mq : Int) ≤ (s.size : Int)) (hw1 : IntKind.i64.wrap (mq : Int) = (mq : Int)) (hw2 : IntKind.i64.wrap (E : Int) = (E : Int)) (hb1 : 0 < (s.extract m mq).size) (h1 : (((s.extract m mq)[0].toNat : Int) != 1) = true) (h2 : (((s.extract m mq)[0].toNat : Int) != 2) = true) :
    Calls Tryz.prog 21 #[.string s] w fun e w' => e = .returned (.agg #[.int .i64 0, .int .i64 0, .string ⟨#[]⟩, .int .i64 0, .int .i64 3]) ∧ Below w.heap.size w w' := by
  have hz : (zeroValue 66).run Tryz.prog w = .ok (.agg #[.int .i64 0, .int .i64 0, .string ⟨#[]⟩, .int .i64 0, .int .i64 0]) w := by kernel_rfl
  go_enter Tryz.func21, Tryz.ntmps21
  go_wp2_with (go_at_call 32; refine (HG.out _).mono ?_; rintro e w' ⟨rfl, rfl⟩)
  all_goals first | (exfalso; omega) | skip
  have hbk := Blk.new_ w 66 #[.int .i64 0, .int .i64 0, .string ⟨#[]⟩, .int .i64 0, .int .i64 0]
  have hB1 := bel_alloc (bel_refl w) (.cells #[.int .i64 0, .int .i64 0, .string ⟨#[]⟩, .int .i64 0, .int .i64 0] 66)
  generalize w.alloc (.cells #[.int .i64 0, .int .i64 0, .string ⟨#[]⟩, .int .i64 0, .int .i64 0] 66) = w1 at *
  generalize hB0 : w.heap.size = b0 at *
  have HB0 := hid' hB0
  have HB1 := hid' hB1
  have HBK := hid' hbk
  clear hB0 hB1 hbk hz
  go_region_with (
    go_at_call 33; refine (HS.out _).mono ?_; rintro e w6 ⟨rfl, hB6⟩
    have HK6 := hid' (HBK.out.drew.below hB6)
    have HL6 := hid' (show Below b0 w w6 from HB1.out.trans ((bel_then (bel_drew (bel_refl w1)) hB6).mono (by have := HB1.out.size; have := HB0.out; omega)))
    have c0 : w6.cell? ⟨b0, 0, none⟩ = some (.int .i64 0) := by simpa using HK6.out.cell 0
    have c1 : w6.cell? ⟨b0, 1, none⟩ = some (.int .i64 0) := by simpa using HK6.out.cell 1
    have c2 : w6.cell? ⟨b0, 2, none⟩ = some (.string ⟨#[]⟩) := by simpa using HK6.out.cell 2
    have c3 : w6.cell? ⟨b0, 3, none⟩ = some (.int .i64 0) := by simpa using HK6.out.cell 3
    have c4 : w6.cell? ⟨b0, 4, none⟩ = some (.int .i64 0) := by simpa using HK6.out.cell 4
    have f0 := HK6.out.frozen 0
    have f1 := HK6.out.frozen 1
    have f2 := HK6.out.frozen 2
    have f3 := HK6.out.frozen 3
    have f4 := HK6.out.frozen 4
    clear hB6)
  all_goals
    go_wp2
    (try simp only [Exit.inBlock, Exit.then])
    refine bodyPost_ret (v := .agg #[.int .i64 0, .int .i64 0, .string ⟨#[]⟩, .int .i64 0, .int .i64 3]) ?_ rfl ⟨rfl, ?_⟩
    · rw [results_cell1 rfl]; go_simp
    · rw [HB0.out]; repeat (first | exact HL6.out | refine Below.setCell ?_ (by exact Nat.le_refl _) _ | refine below_drew' ?_)
set_option maxHeartbeats 2000000 in
theorem ref05_fall (s : ByteArray) (m q mq E : Nat) (w : World)
    (HG : Hid (∀ w, Calls Tryz.prog 32 #[.string s] w fun e w' => e = .returned (.tuple #[.int .u64 (q : Int), .int .i64 (m : Int), .int .i64 0]) ∧ w = w'))
    (HS : Hid (∀ w, Calls Tryz.prog 33 #[.string (s.extract m mq)] w fun e w' => e = .returned (.string (s.extract m E)) ∧ Below w.heap.size w w'))
    (hlen : s.size ≤ 9223372036854775807) (hq1 : ¬ q < 2) (hq2 : ¬ 65536 < q) (i1 : (m : Int) + (q : Int) = (mq : Int)) (i2 : (mq : Int) + 4 = (E : Int)) (hwq : wrap64 (q : Int) = (q : Int)) (hEb : E ≤ 300004)
    (j1 : (0 : Int) ≤ (m : Int)) (j2 : (m : Int) ≤ (E : Int)) (j4 : (m : Int) ≤ (mq : Int)) (j5 : (mq : Int) ≤ (E : Int)) (hend : ¬ s.size < E) (hx1 : (s.extract m E).size = q + 4) (hx2 : (s.extract m mq).size = q)
    (j3 : (E : Int) ≤ (s.size : Int)) (j6 : (mq : Int) ≤ (s.size : Int)) (hw1 : IntKind.i64.wrap (mq : Int) = (mq : Int)) (hw2 : IntKind.i64.wrap (E : Int) = (E : Int)) (hb1 : 0 < (s.extract m mq).size) (c : Int) (hc : ((s.extract m mq)[0].toNat : Int) = c) (hcc : c = 1 ∨ c = 2) (t d f : Int)
    (HG2 : Hid (∀ w, Calls Tryz.prog 32 #[.string ((s.extract m mq).extract 1 q)] w fun e w' => e = .returned (.tuple #[.int .u64 t, .int .i64 d, .int .i64 f]) ∧ w = w')) (n1 : (f != 0) = true) :
    Calls Tryz.prog 21 #[.string s] w fun e w' => e = .returned (.agg #[.int .i64 0, .int .i64 0, .string ⟨#[]⟩, .int .i64 0, .int .i64 f]) ∧ Below w.heap.size w w' := by
  rcases hcc with rfl | rfl
  all_goals
    have hz : (zeroValue 66).run Tryz.prog w = .ok (.agg #[.int .i64 0, .int .i64 0, .string ⟨#[]⟩, .int .i64 0, .int .i64 0]) w := by kernel_rfl
    go_enter Tryz.func21, Tryz.ntmps21
    go_wp2_with (go_at_call 32; refine (HG.out _).mono ?_; rintro e w' ⟨rfl, rfl⟩)
    all_goals first | (exfalso; omega) | skip
    have hbk := Blk.new_ w 66 #[.int .i64 0, .int .i64 0, .string ⟨#[]⟩, .int .i64 0, .int .i64 0]
    have hB1 := bel_alloc (bel_refl w) (.cells #[.int .i64 0, .int .i64 0, .string ⟨#[]⟩, .int .i64 0, .int .i64 0] 66)
    generalize w.alloc (.cells #[.int .i64 0, .int .i64 0, .string ⟨#[]⟩, .int .i64 0, .int .i64 0] 66) = w1 at *
    generalize hB0 : w.heap.size = b0 at *
    have HB0 := hid' hB0
    have HB1 := hid' hB1
    have HBK := hid' hbk
    clear hB0 hB1 hbk hz
    go_region_with (
      go_at_call 33; refine (HS.out _).mono ?_; rintro e w6 ⟨rfl, hB6⟩
      have HK6 := hid' (HBK.out.drew.below hB6)
      have HL6 := hid' (show Below b0 w w6 from HB1.out.trans ((bel_then (bel_drew (bel_refl w1)) hB6).mono (by have := HB1.out.size; have := HB0.out; omega)))
      have c0 : w6.cell? ⟨b0, 0, none⟩ = some (.int .i64 0) := by simpa using HK6.out.cell 0
      have c1 : w6.cell? ⟨b0, 1, none⟩ = some (.int .i64 0) := by simpa using HK6.out.cell 1
      have c2 : w6.cell? ⟨b0, 2, none⟩ = some (.string ⟨#[]⟩) := by simpa using HK6.out.cell 2
      have c3 : w6.cell? ⟨b0, 3, none⟩ = some (.int .i64 0) := by simpa using HK6.out.cell 3
      have c4 : w6.cell? ⟨b0, 4, none⟩ = some (.int .i64 0) := by simpa using HK6.out.cell 4
      have f0 := HK6.out.frozen 0
      have f1 := HK6.out.frozen 1
      have f2 := HK6.out.frozen 2
      have f3 := HK6.out.frozen 3
      have f4 := HK6.out.frozen 4
      clear hB6)
    all_goals
      go_wp2_with (go_at_call 32; refine (HG2.out _).mono ?_; rintro e w' ⟨rfl, rfl⟩)
      (try simp only [Exit.inBlock, Exit.then])
      refine bodyPost_ret (v := .agg #[.int .i64 0, .int .i64 0, .string ⟨#[]⟩, .int .i64 0, .int .i64 f]) ?_ rfl ⟨rfl, ?_⟩
      · rw [results_cell1 rfl]; go_simp
      · rw [HB0.out]; repeat (first | exact HL6.out | refine Below.setCell ?_ (by exact Nat.le_refl _) _ | refine below_drew' ?_)
set_option maxHeartbeats 4000000 in
theorem ref05_yes (s : ByteArray) (m q mq E : Nat) (w : World)
    (HG : Hid (∀ w, Calls Tryz.prog 32 #[.string s] w fun e w' => e = .returned (.tuple #[.int .u64 (q : Int), .int .i64 (m : Int), .int .i64 0]) ∧ w = w'))
    (HS : Hid (∀ w, Calls Tryz.prog 33 #[.string (s.extract m mq)] w fun e w' => e = .returned (.string (s.extract m E)) ∧ Below w.heap.size w w'))
    (hlen : s.size ≤ 9223372036854775807) (hq1 : ¬ q < 2) (hq2 : ¬ 65536 < q) (i1 : (m : Int) + (q : Int) = (mq : Int)) (i2 : (mq : Int) + 4 = (E : Int)) (hwq : wrap64 (q : Int) = (q : Int)) (hEb : E ≤ 300004)
    (j1 : (0 : Int) ≤ (m : Int)) (j2 : (m : Int) ≤ (E : Int)) (j4 : (m : Int) ≤ (mq : Int)) (j5 : (mq : Int) ≤ (E : Int)) (hend : ¬ s.size < E) (hx1 : (s.extract m E).size = q + 4) (hx2 : (s.extract m mq).size = q)
    (j3 : (E : Int) ≤ (s.size : Int)) (j6 : (mq : Int) ≤ (s.size : Int)) (hw1 : IntKind.i64.wrap (mq : Int) = (mq : Int)) (hw2 : IntKind.i64.wrap (E : Int) = (E : Int)) (hb1 : 0 < (s.extract m mq).size) (c : Int) (hc : ((s.extract m mq)[0].toNat : Int) = c) (hcc : c = 1 ∨ c = 2) (t d z : Nat) (ht : t < 18446744073709551616)
    (HG2 : Hid (∀ w, Calls Tryz.prog 32 #[.string ((s.extract m mq).extract 1 q)] w fun e w' => e = .returned (.tuple #[.int .u64 (t : Int), .int .i64 (d : Int), .int .i64 0]) ∧ w = w'))
    (z1 : (1 : Int) + (d : Int) = (z : Int)) (z2 : IntKind.i64.wrap (z : Int) = (z : Int)) (z3 : (0 : Int) ≤ (z : Int)) (z4 : (z : Int) ≤ (q : Int)) :
    Calls Tryz.prog 21 #[.string s] w fun e w' => e = .returned (.agg #[.int .i64 c, .int .i64 (vback t), .string ((s.extract m mq).extract z q), .int .i64 (E : Int), .int .i64 0]) ∧ Below w.heap.size w w' := by
  have HBk := hid' (fun w => ref02_Back t w ht)
  rcases hcc with rfl | rfl
  all_goals
    have hz : (zeroValue 66).run Tryz.prog w = .ok (.agg #[.int .i64 0, .int .i64 0, .string ⟨#[]⟩, .int .i64 0, .int .i64 0]) w := by kernel_rfl
    go_enter Tryz.func21, Tryz.ntmps21
    go_wp2_with (go_at_call 32; refine (HG.out _).mono ?_; rintro e w' ⟨rfl, rfl⟩)
    all_goals first | (exfalso; omega) | skip
    have hbk := Blk.new_ w 66 #[.int .i64 0, .int .i64 0, .string ⟨#[]⟩, .int .i64 0, .int .i64 0]
    have hB1 := bel_alloc (bel_refl w) (.cells #[.int .i64 0, .int .i64 0, .string ⟨#[]⟩, .int .i64 0, .int .i64 0] 66)
    generalize w.alloc (.cells #[.int .i64 0, .int .i64 0, .string ⟨#[]⟩, .int .i64 0, .int .i64 0] 66) = w1 at *
    generalize hB0 : w.heap.size = b0 at *
    have HB0 := hid' hB0
    have HB1 := hid' hB1
    have HBK := hid' hbk
    clear hB0 hB1 hbk hz
    go_region_with (
      go_at_call 33; refine (HS.out _).mono ?_; rintro e w6 ⟨rfl, hB6⟩
      have HK6 := hid' (HBK.out.drew.below hB6)
      have HL6 := hid' (show Below b0 w w6 from HB1.out.trans ((bel_then (bel_drew (bel_refl w1)) hB6).mono (by have := HB1.out.size; have := HB0.out; omega)))
      have c0 : w6.cell? ⟨b0, 0, none⟩ = some (.int .i64 0) := by simpa using HK6.out.cell 0
      have c1 : w6.cell? ⟨b0, 1, none⟩ = some (.int .i64 0) := by simpa using HK6.out.cell 1
      have c2 : w6.cell? ⟨b0, 2, none⟩ = some (.string ⟨#[]⟩) := by simpa using HK6.out.cell 2
      have c3 : w6.cell? ⟨b0, 3, none⟩ = some (.int .i64 0) := by simpa using HK6.out.cell 3
      have c4 : w6.cell? ⟨b0, 4, none⟩ = some (.int .i64 0) := by simpa using HK6.out.cell 4
      have f0 := HK6.out.frozen 0
      have f1 := HK6.out.frozen 1
      have f2 := HK6.out.frozen 2
      have f3 := HK6.out.frozen 3
      have f4 := HK6.out.frozen 4
      clear hB6)
    all_goals
      go_wp2_with (go_at_call 32; refine (HG2.out _).mono ?_; rintro e w' ⟨rfl, rfl⟩)
      have hcw : IntKind.i64.wrap 1 = 1 := rfl
      have hcw' : IntKind.i64.wrap 2 = 2 := rfl
      go_region_with (go_at_call 34; refine (HBk.out _).mono ?_; rintro e w' ⟨rfl, rfl⟩)
      all_goals
        go_wp2
        (try simp only [Exit.inBlock, Exit.then])
        refine bodyPost_ret (v := .agg #[.int .i64 _, .int .i64 (vback t), .string ((s.extract m mq).extract z q), .int .i64 (E : Int), .int .i64 0]) ?_ rfl ⟨rfl, ?_⟩
        · rw [results_cell1 rfl]; go_simp
        · rw [HB0.out]; repeat (first | exact HL6.out | refine Below.setCell ?_ (by exact Nat.le_refl _) _ | refine below_drew' ?_)
end Go.Proofs.YtioaijjmialdoaaGreatDoor
