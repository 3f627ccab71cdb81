
/- Of any rule whether there can be such a way, and its slack: the law, walked. No condition. -/
import Derived.Test.YtcgonoepndlofaaGenB
import Derived.Test.YtcgonoepndlofaaOpen
namespace Go.Proofs.Ytcgonoepndlofaa
set_option maxRecDepth 100000
set_option linter.unusedSimpArgs false
open Go.RowKit
set_option linter.unusedVariables false
set_option linter.unusedSimpArgs false

theorem me_n0 (v : Value) (w : World) : (method 273 99 v "Now").run Try.prog w = .ok (129, v) w := by kernel_rfl
theorem me_n1 (v : Value) (w : World) : (method 273 97 v "Now").run Try.prog w = .ok (121, v) w := by kernel_rfl
theorem me_n2 (v : Value) (w : World) : (method 273 40 v "Now").run Try.prog w = .ok (26, v) w := by kernel_rfl
theorem pLag_nil (p : Int) : pLag [] p = 0 := by unfold pLag; simp [lstOf]
theorem BGen.below {w w' : World} {g : Nat} {bound now most : Int} (h : BGen w g bound now most) (hb : Below w.heap.size w w') : BGen w' g bound now most :=
  h.mod (Mod.of_below (S := fun _ => False) hb) (fun h => h)
set_option maxHeartbeats 4000000 in
theorem speaks13 (w : World) : Calls Try.prog 28 #[] w fun e w' => e = .returned (.bool true) ∧ Below w.heap.size w w' := by
  have HO := hid' (fun w => gen_Of0 3 0 0 0 w (by decide) (by unfold I64; decide))
  have HC := hid' (fun w => gen_Check 3 0 0 0 0 w)
  rw [show ruleC 3 0 0 0 0 = 3 by decide] at HC
  unfold ruleV at *
  go_enter Try.func28, Try.ntmps28
  go_wp2_with (first
    | (go_at_call 29; refine (HO.out _).mono ?_; rintro e w1 ⟨g, rfl, hg, hG, hB1⟩)
    | (go_at_call 32; refine (gen_Slack0 g 3 NEV NEV _ hG).mono ?_; rintro e w' ⟨rfl, rfl⟩)
    | (go_at_call 31; refine (HC.out _).mono ?_; rintro e w2 ⟨rfl, hB2⟩))
  rw [me_n0]
  go_wp2_with (first
    | (go_at_call 129; refine (bounded_Now g 3 NEV NEV _ hG).mono ?_; rintro e w' ⟨rfl, rfl⟩; unfold NEV)
    | (go_at_call 31; refine (HC.out _).mono ?_; rintro e w2 ⟨rfl, hB2⟩))
  go_ret
  exact ⟨rfl, bel_then hB1 hB2⟩

def RRule (w : World) (cs : List Value) (x : Int × Int × Int × Int × Int) : Prop := cs.length = 5 ∧ (RInt .i64) w ((cs.drop 0).take 1) x.1 ∧ (RInt .i64) w ((cs.drop 1).take 1) x.2.1 ∧ (RInt .i64) w ((cs.drop 2).take 1) x.2.2.1 ∧ (RInt .i64) w ((cs.drop 3).take 1) x.2.2.2.1 ∧ (RInt .i64) w ((cs.drop 4).take 1) x.2.2.2.2
theorem RRule.cells {w : World} {cs : List Value} {x : Int × Int × Int × Int × Int} (h : RRule w cs x) : cs = [.int .i64 x.1, .int .i64 x.2.1, .int .i64 x.2.2.1, .int .i64 x.2.2.2.1, .int .i64 x.2.2.2.2] ∧ I64 x.1 ∧ I64 x.2.1 := by
  obtain ⟨hl, ⟨h1, w1⟩, ⟨h2, w2⟩, ⟨h3, w3⟩, ⟨h4, w4⟩, ⟨h5, w5⟩⟩ := h
  match cs, hl with
  | [a, b, c, d, e], _ =>
    simp at h1 h2 h3 h4 h5
    subst h1 h2 h3 h4 h5
    exact ⟨rfl, I64.of_wf w1, I64.of_wf w2⟩
set_option maxHeartbeats 4000000 in
theorem genOfNil (k b p n s : Int) (w : World) (hc : ruleC k b p n s ≠ 0) :
    Calls Try.prog 7 #[.agg #[.int .i64 k, .int .i64 b, .int .i64 p, .int .i64 n, .int .i64 s]] w fun e w' => e = .returned (.bool true) ∧ Below w.heap.size w w' := by
  have HO := hid' (fun w => gen_OfNil k b p n s w hc)
  have HC := hid' (fun w => gen_Check k b p n s w)
  have HR := hid' (fun w => ref13_Check k b p n s w)
  generalize ruleC k b p n s = c at *
  have hc1 : (c != 0) = true := by simpa using hc
  have hc2 : (c != c) = false := by simp
  clear hc
  unfold ruleV at *
  go_enter Try.func7, Try.ntmps7
  go_wp2_with fail
  have hbk := Blk.new_ w 49 #[.int .i64 k, .int .i64 b, .int .i64 p, .int .i64 n, .int .i64 s]
  have hB0 := bel_alloc (bel_refl w) (.cells #[.int .i64 k, .int .i64 b, .int .i64 p, .int .i64 n, .int .i64 s] 49)
  generalize w.alloc (.cells #[.int .i64 k, .int .i64 b, .int .i64 p, .int .i64 n, .int .i64 s] 49) = w0 at *
  have HB0 := hid' hB0
  have HK0 := hid' hbk
  clear hB0 hbk
  refine (speaks13 _).mono ?_
  rintro e w1 ⟨rfl, hB1⟩
  have HK1 := hid' (HK0.out.below hB1)
  have HB1 := hid' (bel_then HB0.out hB1)
  clear hB1
  have c0 : w1.cell? ⟨w.heap.size, 0, none⟩ = some (.int .i64 k) := by simpa using HK1.out.cell 0
  have c1 : w1.cell? ⟨w.heap.size, 1, none⟩ = some (.int .i64 b) := by simpa using HK1.out.cell 1
  have c2 : w1.cell? ⟨w.heap.size, 2, none⟩ = some (.int .i64 p) := by simpa using HK1.out.cell 2
  have c3 : w1.cell? ⟨w.heap.size, 3, none⟩ = some (.int .i64 n) := by simpa using HK1.out.cell 3
  have c4 : w1.cell? ⟨w.heap.size, 4, none⟩ = some (.int .i64 s) := by simpa using HK1.out.cell 4
  go_wp2_with fail
  refine (HO.out _).mono ?_
  rintro e w2 ⟨rfl, hB2⟩
  have HK2 := hid' (HK1.out.below hB2)
  have c0 : w2.cell? ⟨w.heap.size, 0, none⟩ = some (.int .i64 k) := by simpa using HK2.out.cell 0
  have c1 : w2.cell? ⟨w.heap.size, 1, none⟩ = some (.int .i64 b) := by simpa using HK2.out.cell 1
  have c2 : w2.cell? ⟨w.heap.size, 2, none⟩ = some (.int .i64 p) := by simpa using HK2.out.cell 2
  have c3 : w2.cell? ⟨w.heap.size, 3, none⟩ = some (.int .i64 n) := by simpa using HK2.out.cell 3
  have c4 : w2.cell? ⟨w.heap.size, 4, none⟩ = some (.int .i64 s) := by simpa using HK2.out.cell 4
  go_wp2_with fail
  go_at_call 30
  refine (HR.out _).mono ?_
  rintro e w3 ⟨rfl, hB3⟩
  have HK3 := hid' (HK2.out.below hB3)
  have c0 : w3.cell? ⟨w.heap.size, 0, none⟩ = some (.int .i64 k) := by simpa using HK3.out.cell 0
  have c1 : w3.cell? ⟨w.heap.size, 1, none⟩ = some (.int .i64 b) := by simpa using HK3.out.cell 1
  have c2 : w3.cell? ⟨w.heap.size, 2, none⟩ = some (.int .i64 p) := by simpa using HK3.out.cell 2
  have c3 : w3.cell? ⟨w.heap.size, 3, none⟩ = some (.int .i64 n) := by simpa using HK3.out.cell 3
  have c4 : w3.cell? ⟨w.heap.size, 4, none⟩ = some (.int .i64 s) := by simpa using HK3.out.cell 4
  go_wp2_with fail
  go_at_call 31
  refine (HC.out _).mono ?_
  rintro e w4 ⟨rfl, hB4⟩
  have HK4 := hid' (HK3.out.below hB4)
  have c0 : w4.cell? ⟨w.heap.size, 0, none⟩ = some (.int .i64 k) := by simpa using HK4.out.cell 0
  have c1 : w4.cell? ⟨w.heap.size, 1, none⟩ = some (.int .i64 b) := by simpa using HK4.out.cell 1
  have c2 : w4.cell? ⟨w.heap.size, 2, none⟩ = some (.int .i64 p) := by simpa using HK4.out.cell 2
  have c3 : w4.cell? ⟨w.heap.size, 3, none⟩ = some (.int .i64 n) := by simpa using HK4.out.cell 3
  have c4 : w4.cell? ⟨w.heap.size, 4, none⟩ = some (.int .i64 s) := by simpa using HK4.out.cell 4
  go_wp2
  go_ret
  exact ⟨rfl, bel_then (bel_then (bel_then HB1.out hB2) hB3) hB4⟩
set_option maxHeartbeats 4000000 in
theorem genOf0 (b p n s : Int) (w : World) (hb : 0 ≤ b) (hbI : I64 b) :
    Calls Try.prog 7 #[.agg #[.int .i64 0, .int .i64 b, .int .i64 p, .int .i64 n, .int .i64 s]] w fun e w' => e = .returned (.bool true) ∧ Below w.heap.size w w' := by
  have HC := hid' (fun w => gen_Check 0 b p n s w)
  have HR := hid' (fun w => ref13_Check 0 b p n s w)
  have hc : ruleC 0 b p n s = 0 := by unfold ruleC; rw [if_pos rfl, if_pos hb]
  have HO := hid' (fun w => gen_Of0 b p n s w hb hbI)
  rw [hc] at HC HR
  clear hc
  unfold ruleV at *
  go_enter Try.func7, Try.ntmps7
  go_wp2_with fail
  have hbk := Blk.new_ w 49 #[.int .i64 0, .int .i64 b, .int .i64 p, .int .i64 n, .int .i64 s]
  have hB0 := bel_alloc (bel_refl w) (.cells #[.int .i64 0, .int .i64 b, .int .i64 p, .int .i64 n, .int .i64 s] 49)
  generalize w.alloc (.cells #[.int .i64 0, .int .i64 b, .int .i64 p, .int .i64 n, .int .i64 s] 49) = w0 at *
  have HB0 := hid' hB0
  have HK0 := hid' hbk
  clear hB0 hbk
  refine (speaks13 _).mono ?_
  rintro e w1 ⟨rfl, hB1⟩
  have HK1 := hid' (HK0.out.below hB1)
  have HB1 := hid' (bel_then HB0.out hB1)
  clear hB1
  have c0 : w1.cell? ⟨w.heap.size, 0, none⟩ = some (.int .i64 0) := by simpa using HK1.out.cell 0
  have c1 : w1.cell? ⟨w.heap.size, 1, none⟩ = some (.int .i64 b) := by simpa using HK1.out.cell 1
  have c2 : w1.cell? ⟨w.heap.size, 2, none⟩ = some (.int .i64 p) := by simpa using HK1.out.cell 2
  have c3 : w1.cell? ⟨w.heap.size, 3, none⟩ = some (.int .i64 n) := by simpa using HK1.out.cell 3
  have c4 : w1.cell? ⟨w.heap.size, 4, none⟩ = some (.int .i64 s) := by simpa using HK1.out.cell 4
  go_wp2_with fail
  refine (HO.out _).mono ?_
  rintro e w2 ⟨g, rfl, hg, hG, hB2⟩
  have HK2 := hid' (HK1.out.below hB2)
  have c0 : w2.cell? ⟨w.heap.size, 0, none⟩ = some (.int .i64 0) := by simpa using HK2.out.cell 0
  have c1 : w2.cell? ⟨w.heap.size, 1, none⟩ = some (.int .i64 b) := by simpa using HK2.out.cell 1
  have c2 : w2.cell? ⟨w.heap.size, 2, none⟩ = some (.int .i64 p) := by simpa using HK2.out.cell 2
  have c3 : w2.cell? ⟨w.heap.size, 3, none⟩ = some (.int .i64 n) := by simpa using HK2.out.cell 3
  have c4 : w2.cell? ⟨w.heap.size, 4, none⟩ = some (.int .i64 s) := by simpa using HK2.out.cell 4
  go_wp2_with fail
  go_at_call 30
  refine (HR.out _).mono ?_
  rintro e w3 ⟨rfl, hB3⟩
  have HK3 := hid' (HK2.out.below hB3)
  have c0 : w3.cell? ⟨w.heap.size, 0, none⟩ = some (.int .i64 0) := by simpa using HK3.out.cell 0
  have c1 : w3.cell? ⟨w.heap.size, 1, none⟩ = some (.int .i64 b) := by simpa using HK3.out.cell 1
  have c2 : w3.cell? ⟨w.heap.size, 2, none⟩ = some (.int .i64 p) := by simpa using HK3.out.cell 2
  have c3 : w3.cell? ⟨w.heap.size, 3, none⟩ = some (.int .i64 n) := by simpa using HK3.out.cell 3
  have c4 : w3.cell? ⟨w.heap.size, 4, none⟩ = some (.int .i64 s) := by simpa using HK3.out.cell 4
  go_wp2_with fail
  go_at_call 31
  refine (HC.out _).mono ?_
  rintro e w4 ⟨rfl, hB4⟩
  have HK4 := hid' (HK3.out.below hB4)
  have c0 : w4.cell? ⟨w.heap.size, 0, none⟩ = some (.int .i64 0) := by simpa using HK4.out.cell 0
  have c1 : w4.cell? ⟨w.heap.size, 1, none⟩ = some (.int .i64 b) := by simpa using HK4.out.cell 1
  have c2 : w4.cell? ⟨w.heap.size, 2, none⟩ = some (.int .i64 p) := by simpa using HK4.out.cell 2
  have c3 : w4.cell? ⟨w.heap.size, 3, none⟩ = some (.int .i64 n) := by simpa using HK4.out.cell 3
  have c4 : w4.cell? ⟨w.heap.size, 4, none⟩ = some (.int .i64 s) := by simpa using HK4.out.cell 4
  have hG4 := (hG.below hB3).below hB4
  go_wp2_with fail
  refine (gen_Slack0 g b NEV NEV _ hG4).mono ?_
  rintro e w' ⟨rfl, rfl⟩
  go_wp2
  rw [me_n0]
  go_wp2_with (go_at_call 129; refine (bounded_Now g b NEV NEV _ hG4).mono ?_; rintro e w' ⟨rfl, rfl⟩; unfold NEV)
  go_ret
  exact ⟨rfl, bel_then (bel_then (bel_then HB1.out hB2) hB3) hB4⟩
set_option maxHeartbeats 4000000 in
theorem genOf1 (b p n s : Int) (w : World) (hs0 : 0 ≤ s) (hs1 : s ≤ 1114111) :
    Calls Try.prog 7 #[.agg #[.int .i64 1, .int .i64 b, .int .i64 p, .int .i64 n, .int .i64 s]] w fun e w' => e = .returned (.bool true) ∧ Below w.heap.size w w' := by
  have HC := hid' (fun w => gen_Check 1 b p n s w)
  have HR := hid' (fun w => ref13_Check 1 b p n s w)
  have hc : ruleC 1 b p n s = 0 := by unfold ruleC; rw [if_neg (by decide), if_pos rfl, if_pos hs0, if_pos hs1]
  have HO := hid' (fun w => gen_Of1 b p n s w hs0 hs1)
  rw [hc] at HC HR
  clear hc
  unfold ruleV at *
  go_enter Try.func7, Try.ntmps7
  go_wp2_with fail
  have hbk := Blk.new_ w 49 #[.int .i64 1, .int .i64 b, .int .i64 p, .int .i64 n, .int .i64 s]
  have hB0 := bel_alloc (bel_refl w) (.cells #[.int .i64 1, .int .i64 b, .int .i64 p, .int .i64 n, .int .i64 s] 49)
  generalize w.alloc (.cells #[.int .i64 1, .int .i64 b, .int .i64 p, .int .i64 n, .int .i64 s] 49) = w0 at *
  have HB0 := hid' hB0
  have HK0 := hid' hbk
  clear hB0 hbk
  refine (speaks13 _).mono ?_
  rintro e w1 ⟨rfl, hB1⟩
  have HK1 := hid' (HK0.out.below hB1)
  have HB1 := hid' (bel_then HB0.out hB1)
  clear hB1
  have c0 : w1.cell? ⟨w.heap.size, 0, none⟩ = some (.int .i64 1) := by simpa using HK1.out.cell 0
  have c1 : w1.cell? ⟨w.heap.size, 1, none⟩ = some (.int .i64 b) := by simpa using HK1.out.cell 1
  have c2 : w1.cell? ⟨w.heap.size, 2, none⟩ = some (.int .i64 p) := by simpa using HK1.out.cell 2
  have c3 : w1.cell? ⟨w.heap.size, 3, none⟩ = some (.int .i64 n) := by simpa using HK1.out.cell 3
  have c4 : w1.cell? ⟨w.heap.size, 4, none⟩ = some (.int .i64 s) := by simpa using HK1.out.cell 4
  go_wp2_with fail
  refine (HO.out _).mono ?_
  rintro e w2 ⟨g, rfl, hg, hG, hB2⟩
  have HK2 := hid' (HK1.out.below hB2)
  have c0 : w2.cell? ⟨w.heap.size, 0, none⟩ = some (.int .i64 1) := by simpa using HK2.out.cell 0
  have c1 : w2.cell? ⟨w.heap.size, 1, none⟩ = some (.int .i64 b) := by simpa using HK2.out.cell 1
  have c2 : w2.cell? ⟨w.heap.size, 2, none⟩ = some (.int .i64 p) := by simpa using HK2.out.cell 2
  have c3 : w2.cell? ⟨w.heap.size, 3, none⟩ = some (.int .i64 n) := by simpa using HK2.out.cell 3
  have c4 : w2.cell? ⟨w.heap.size, 4, none⟩ = some (.int .i64 s) := by simpa using HK2.out.cell 4
  go_wp2_with fail
  go_at_call 30
  refine (HR.out _).mono ?_
  rintro e w3 ⟨rfl, hB3⟩
  have HK3 := hid' (HK2.out.below hB3)
  have c0 : w3.cell? ⟨w.heap.size, 0, none⟩ = some (.int .i64 1) := by simpa using HK3.out.cell 0
  have c1 : w3.cell? ⟨w.heap.size, 1, none⟩ = some (.int .i64 b) := by simpa using HK3.out.cell 1
  have c2 : w3.cell? ⟨w.heap.size, 2, none⟩ = some (.int .i64 p) := by simpa using HK3.out.cell 2
  have c3 : w3.cell? ⟨w.heap.size, 3, none⟩ = some (.int .i64 n) := by simpa using HK3.out.cell 3
  have c4 : w3.cell? ⟨w.heap.size, 4, none⟩ = some (.int .i64 s) := by simpa using HK3.out.cell 4
  go_wp2_with fail
  go_at_call 31
  refine (HC.out _).mono ?_
  rintro e w4 ⟨rfl, hB4⟩
  have HK4 := hid' (HK3.out.below hB4)
  have c0 : w4.cell? ⟨w.heap.size, 0, none⟩ = some (.int .i64 1) := by simpa using HK4.out.cell 0
  have c1 : w4.cell? ⟨w.heap.size, 1, none⟩ = some (.int .i64 b) := by simpa using HK4.out.cell 1
  have c2 : w4.cell? ⟨w.heap.size, 2, none⟩ = some (.int .i64 p) := by simpa using HK4.out.cell 2
  have c3 : w4.cell? ⟨w.heap.size, 3, none⟩ = some (.int .i64 n) := by simpa using HK4.out.cell 3
  have c4 : w4.cell? ⟨w.heap.size, 4, none⟩ = some (.int .i64 s) := by simpa using HK4.out.cell 4
  have hG4 := (hG.below hB3).below hB4
  go_wp2_with fail
  refine (gen_Slack1 g _).mono ?_
  rintro e w' ⟨rfl, rfl⟩
  go_wp2
  rw [me_n1]
  go_wp2_with (go_at_call 121; refine (punct_Now g s _ hG4).mono ?_; rintro e w' ⟨rfl, rfl⟩; unfold NEV)
  go_ret
  exact ⟨rfl, bel_then (bel_then (bel_then HB1.out hB2) hB3) hB4⟩
set_option maxHeartbeats 4000000 in
theorem genOf2 (b p n s : Int) (w : World) (hp0 : 0 ≤ p) (hp1 : p ≤ 100) (hn0 : 1 ≤ n) (hn1 : n ≤ 4096) :
    Calls Try.prog 7 #[.agg #[.int .i64 2, .int .i64 b, .int .i64 p, .int .i64 n, .int .i64 s]] w fun e w' => e = .returned (.bool true) ∧ Below w.heap.size w w' := by
  have HC := hid' (fun w => gen_Check 2 b p n s w)
  have HR := hid' (fun w => ref13_Check 2 b p n s w)
  have hc : ruleC 2 b p n s = 0 := by unfold ruleC; rw [if_neg (by decide), if_neg (by decide), if_pos rfl, if_pos hp0, if_pos hp1, if_pos hn0, if_pos hn1]
  have HO := hid' (fun w => gen_Of2 b p n s w hp0 hp1 hn0 hn1)
  rw [hc] at HC HR
  clear hc
  unfold ruleV at *
  go_enter Try.func7, Try.ntmps7
  go_wp2_with fail
  have hbk := Blk.new_ w 49 #[.int .i64 2, .int .i64 b, .int .i64 p, .int .i64 n, .int .i64 s]
  have hB0 := bel_alloc (bel_refl w) (.cells #[.int .i64 2, .int .i64 b, .int .i64 p, .int .i64 n, .int .i64 s] 49)
  generalize w.alloc (.cells #[.int .i64 2, .int .i64 b, .int .i64 p, .int .i64 n, .int .i64 s] 49) = w0 at *
  have HB0 := hid' hB0
  have HK0 := hid' hbk
  clear hB0 hbk
  refine (speaks13 _).mono ?_
  rintro e w1 ⟨rfl, hB1⟩
  have HK1 := hid' (HK0.out.below hB1)
  have HB1 := hid' (bel_then HB0.out hB1)
  clear hB1
  have c0 : w1.cell? ⟨w.heap.size, 0, none⟩ = some (.int .i64 2) := by simpa using HK1.out.cell 0
  have c1 : w1.cell? ⟨w.heap.size, 1, none⟩ = some (.int .i64 b) := by simpa using HK1.out.cell 1
  have c2 : w1.cell? ⟨w.heap.size, 2, none⟩ = some (.int .i64 p) := by simpa using HK1.out.cell 2
  have c3 : w1.cell? ⟨w.heap.size, 3, none⟩ = some (.int .i64 n) := by simpa using HK1.out.cell 3
  have c4 : w1.cell? ⟨w.heap.size, 4, none⟩ = some (.int .i64 s) := by simpa using HK1.out.cell 4
  go_wp2_with fail
  refine (HO.out _).mono ?_
  rintro e w2 ⟨g, rg, rb, rfl, hG, hB2⟩
  have HK2 := hid' (HK1.out.below hB2)
  have c0 : w2.cell? ⟨w.heap.size, 0, none⟩ = some (.int .i64 2) := by simpa using HK2.out.cell 0
  have c1 : w2.cell? ⟨w.heap.size, 1, none⟩ = some (.int .i64 b) := by simpa using HK2.out.cell 1
  have c2 : w2.cell? ⟨w.heap.size, 2, none⟩ = some (.int .i64 p) := by simpa using HK2.out.cell 2
  have c3 : w2.cell? ⟨w.heap.size, 3, none⟩ = some (.int .i64 n) := by simpa using HK2.out.cell 3
  have c4 : w2.cell? ⟨w.heap.size, 4, none⟩ = some (.int .i64 s) := by simpa using HK2.out.cell 4
  go_wp2_with fail
  go_at_call 30
  refine (HR.out _).mono ?_
  rintro e w3 ⟨rfl, hB3⟩
  have HK3 := hid' (HK2.out.below hB3)
  have c0 : w3.cell? ⟨w.heap.size, 0, none⟩ = some (.int .i64 2) := by simpa using HK3.out.cell 0
  have c1 : w3.cell? ⟨w.heap.size, 1, none⟩ = some (.int .i64 b) := by simpa using HK3.out.cell 1
  have c2 : w3.cell? ⟨w.heap.size, 2, none⟩ = some (.int .i64 p) := by simpa using HK3.out.cell 2
  have c3 : w3.cell? ⟨w.heap.size, 3, none⟩ = some (.int .i64 n) := by simpa using HK3.out.cell 3
  have c4 : w3.cell? ⟨w.heap.size, 4, none⟩ = some (.int .i64 s) := by simpa using HK3.out.cell 4
  go_wp2_with fail
  go_at_call 31
  refine (HC.out _).mono ?_
  rintro e w4 ⟨rfl, hB4⟩
  have HK4 := hid' (HK3.out.below hB4)
  have c0 : w4.cell? ⟨w.heap.size, 0, none⟩ = some (.int .i64 2) := by simpa using HK4.out.cell 0
  have c1 : w4.cell? ⟨w.heap.size, 1, none⟩ = some (.int .i64 b) := by simpa using HK4.out.cell 1
  have c2 : w4.cell? ⟨w.heap.size, 2, none⟩ = some (.int .i64 p) := by simpa using HK4.out.cell 2
  have c3 : w4.cell? ⟨w.heap.size, 3, none⟩ = some (.int .i64 n) := by simpa using HK4.out.cell 3
  have c4 : w4.cell? ⟨w.heap.size, 4, none⟩ = some (.int .i64 s) := by simpa using HK4.out.cell 4
  have hG4 := (hG.below hB3).below hB4
  go_wp2_with fail
  refine (gen_Slack2 hG4).mono ?_
  rintro e w5 ⟨rfl, hB5⟩
  rw [pLag_nil]
  have HK5 := hid' (HK4.out.below hB5)
  have c0 : w5.cell? ⟨w.heap.size, 0, none⟩ = some (.int .i64 2) := by simpa using HK5.out.cell 0
  have c1 : w5.cell? ⟨w.heap.size, 1, none⟩ = some (.int .i64 b) := by simpa using HK5.out.cell 1
  have c2 : w5.cell? ⟨w.heap.size, 2, none⟩ = some (.int .i64 p) := by simpa using HK5.out.cell 2
  have c3 : w5.cell? ⟨w.heap.size, 3, none⟩ = some (.int .i64 n) := by simpa using HK5.out.cell 3
  have c4 : w5.cell? ⟨w.heap.size, 4, none⟩ = some (.int .i64 s) := by simpa using HK5.out.cell 4
  go_wp2
  rw [me_n2]
  go_wp2_with (go_at_call 26; refine (percent_Now (hG4.below hB5)).mono ?_; rintro e w' ⟨rfl, rfl⟩; unfold NEV)
  go_ret
  exact ⟨rfl, bel_then (bel_then (bel_then (bel_then HB1.out hB2) hB3) hB4) hB5⟩
theorem genOf (cs : Array Value) (r : Int × Int × Int × Int × Int) (w : World) (hr : RRule w cs.toList r) :
    Calls Try.prog 7 #[.agg cs] w fun e w' => e = .returned (.bool true) ∧ Below w.heap.size w w' := by
  obtain ⟨hcs, hkI, hbI⟩ := hr.cells
  obtain ⟨k, b, p, n, s⟩ := r
  simp only at hcs hkI hbI
  obtain rfl : cs = #[.int .i64 k, .int .i64 b, .int .i64 p, .int .i64 n, .int .i64 s] := Array.ext' hcs
  clear hcs hr
  by_cases hc : ruleC k b p n s = 0
  · unfold ruleC at hc
    by_cases k0 : k = 0
    · subst k0
      rw [if_pos rfl] at hc
      exact genOf0 b p n s w (by split at hc; assumption; cases hc) hbI
    rw [if_neg k0] at hc
    by_cases k1 : k = 1
    · subst k1
      rw [if_pos rfl] at hc
      have h : 0 ≤ s ∧ s ≤ 1114111 := by
        repeat' split at hc
        all_goals first | omega | (cases hc)
      exact genOf1 b p n s w h.1 h.2
    rw [if_neg k1] at hc
    by_cases k2 : k = 2
    · subst k2
      rw [if_pos rfl] at hc
      have h : 0 ≤ p ∧ p ≤ 100 ∧ 1 ≤ n ∧ n ≤ 4096 := by
        repeat' split at hc
        all_goals first | omega | (cases hc)
      exact genOf2 b p n s w h.1 h.2.1 h.2.2.1 h.2.2.2
    rw [if_neg k2] at hc
    cases hc
  · exact genOfNil k b p n s w hc
end Go.Proofs.Ytcgonoepndlofaa
