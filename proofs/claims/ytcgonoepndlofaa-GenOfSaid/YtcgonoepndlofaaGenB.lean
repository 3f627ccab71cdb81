
/- The ways as one (gen): the way that a rule says, its slack, walked. No condition. -/
import Derived.Test.YtcgonoepndlofaaGen
import Derived.Stop.Asserts
namespace Go.Proofs.Ytcgonoepndlofaa
set_option maxRecDepth 100000
set_option linter.unusedSimpArgs false
open Go.RowKit
set_option linter.unusedVariables false
set_option linter.unusedSimpArgs false

set_option maxHeartbeats 4000000 in
theorem gen_OfNil (k b p n s : Int) (w : World) (hc : ruleC k b p n s ≠ 0) :
    Calls Try.prog 29 #[ruleV k b p n s] w fun e w' => e = .returned (.tuple #[.nilIface, .int .i64 (ruleC k b p n s)]) ∧ Below w.heap.size w w' := by
  have HC := hid' (fun w => gen_Check k b p n s w)
  generalize ruleC k b p n s = c at *
  have hc1 : (c != 0) = true := by simpa using hc
  clear hc
  unfold ruleV at *
  go_enter Try.func29, Try.ntmps29
  go_wp2_with (go_at_call 31; refine (HC.out _).mono ?_; rintro e w1 ⟨rfl, hB1⟩)
  go_ret2
  exact ⟨rfl, bel_then (bel_alloc (bel_refl _) _) hB1⟩
set_option maxHeartbeats 4000000 in
theorem gen_Of0 (b p n s : Int) (w : World) (hb : 0 ≤ b) (hbI : I64 b) :
    Calls Try.prog 29 #[ruleV 0 b p n s] w fun e w' => ∃ g, e = .returned (.tuple #[.iface 99 (.pointer (some ⟨g, 0, none⟩)), .int .i64 0]) ∧ w.heap.size ≤ g ∧ BGen w' g b NEV NEV ∧ Below w.heap.size w w' := by
  have HC := hid' (fun w => gen_Check 0 b p n s w)
  rw [show ruleC 0 b p n s = 0 by unfold ruleC; rw [if_pos rfl, if_pos hb]] at HC
  unfold ruleV at *
  have HK := hid' (Blk.new_ w 49 #[.int .i64 0, .int .i64 b, .int .i64 p, .int .i64 n, .int .i64 s])
  have HB0 := hid' (bel_alloc (bel_refl w) (.cells #[.int .i64 0, .int .i64 b, .int .i64 p, .int .i64 n, .int .i64 s] 49))
  go_enter Try.func29, Try.ntmps29
  go_wp2_with fail
  generalize w.alloc (.cells #[.int .i64 0, .int .i64 b, .int .i64 p, .int .i64 n, .int .i64 s] 49) = w0 at *
  refine (HC.out _).mono ?_
  rintro e w1 ⟨rfl, hB1⟩
  have HK1 := hid' (HK.out.below hB1)
  have c0 : w1.cell? ⟨w.heap.size, 0, none⟩ = some (.int .i64 0) := by simpa using HK1.out.cell 0
  have c1 : w1.cell? ⟨w.heap.size, 1, none⟩ = some (.int .i64 b) := by simpa using HK1.out.cell 1
  have HB1 := hid' (bel_then HB0.out hB1)
  have hsz := HB1.out.size
  clear hB1
  go_wp2_with (go_at_call 63; refine (bounded_New b _ hbI).mono ?_; rintro e w2 ⟨g, rfl, hg, hG, hB2⟩)
  go_ret2
  exact ⟨g, rfl, by omega, hG, bel_then HB1.out hB2⟩
set_option maxHeartbeats 4000000 in
theorem gen_Of1 (b p n s : Int) (w : World) (hs0 : 0 ≤ s) (hs1 : s ≤ 1114111) :
    Calls Try.prog 29 #[ruleV 1 b p n s] w fun e w' => ∃ g, e = .returned (.tuple #[.iface 97 (.pointer (some ⟨g, 0, none⟩)), .int .i64 0]) ∧ w.heap.size ≤ g ∧ Blk w' g 123 #[.int .i64 s, .int .i64 0, .bool false] ∧ Below w.heap.size w w' := by
  have HC := hid' (fun w => gen_Check 1 b p n s w)
  rw [show ruleC 1 b p n s = 0 by unfold ruleC; rw [if_neg (by decide), if_pos rfl, if_pos hs0, if_pos hs1]] at HC
  unfold ruleV at *
  have HK := hid' (Blk.new_ w 49 #[.int .i64 1, .int .i64 b, .int .i64 p, .int .i64 n, .int .i64 s])
  have HB0 := hid' (bel_alloc (bel_refl w) (.cells #[.int .i64 1, .int .i64 b, .int .i64 p, .int .i64 n, .int .i64 s] 49))
  go_enter Try.func29, Try.ntmps29
  go_wp2_with fail
  generalize w.alloc (.cells #[.int .i64 1, .int .i64 b, .int .i64 p, .int .i64 n, .int .i64 s] 49) = w0 at *
  refine (HC.out _).mono ?_
  rintro e w1 ⟨rfl, hB1⟩
  have HK1 := hid' (HK.out.below hB1)
  have c0 : w1.cell? ⟨w.heap.size, 0, none⟩ = some (.int .i64 1) := by simpa using HK1.out.cell 0
  have c4 : w1.cell? ⟨w.heap.size, 4, none⟩ = some (.int .i64 s) := by simpa using HK1.out.cell 4
  have HB1 := hid' (bel_then HB0.out hB1)
  have hsz := HB1.out.size
  clear hB1
  go_wp2_with (go_at_call 62; refine (punct_New s _).mono ?_; rintro e w2 ⟨rfl, hG, hB2⟩)
  go_ret2
  exact ⟨w1.heap.size, rfl, hsz, hG, bel_then HB1.out hB2⟩
theorem PGen.lower {w : World} {B B' g rg rb : Nat} {v : Value} {p : Int} {n : Nat} {q : List Int} {now most : Int} (h : PGen w B g rg rb v p n q now most) (hB : B' ≤ B) : PGen w B' g rg rb v p n q now most := by
  obtain ⟨bs, a2, s2, a1, s1, h1, h2, h3, h4, h5, h6, h7, h8, h9, h10, h11, h12, h13⟩ := h
  exact ⟨bs, a2, s2, a1, s1, ⟨h1.1, h1.2.1, h1.2.2.1, own_lower h1.2.2.2.1 hB, h1.2.2.2.2.1, h1.2.2.2.2.2.1, by have := h1.2.2.2.2.2.2.1; omega, h1.2.2.2.2.2.2.2⟩, h2, h3, h4, h5, h6, h7, h8, h9, h10, by omega, by omega, by omega⟩
set_option maxHeartbeats 4000000 in
theorem gen_Of2 (b p n s : Int) (w : World) (hp0 : 0 ≤ p) (hp1 : p ≤ 100) (hn0 : 1 ≤ n) (hn1 : n ≤ 4096) :
    Calls Try.prog 29 #[ruleV 2 b p n s] w fun e w' => ∃ g rg rb, e = .returned (.tuple #[.iface 40 (.pointer (some ⟨g, 0, none⟩)), .int .i64 0]) ∧ PGen w' w.heap.size g rg rb (.slice none 0 0) p n.toNat [] NEV NEV ∧ Below w.heap.size w w' := by
  have HC := hid' (fun w => gen_Check 2 b p n s w)
  rw [show ruleC 2 b p n s = 0 by unfold ruleC; rw [if_neg (by decide), if_neg (by decide), if_pos rfl, if_pos hp0, if_pos hp1, if_pos hn0, if_pos hn1]] at HC
  unfold ruleV at *
  have HK := hid' (Blk.new_ w 49 #[.int .i64 2, .int .i64 b, .int .i64 p, .int .i64 n, .int .i64 s])
  have HB0 := hid' (bel_alloc (bel_refl w) (.cells #[.int .i64 2, .int .i64 b, .int .i64 p, .int .i64 n, .int .i64 s] 49))
  go_enter Try.func29, Try.ntmps29
  go_wp2_with fail
  generalize w.alloc (.cells #[.int .i64 2, .int .i64 b, .int .i64 p, .int .i64 n, .int .i64 s] 49) = w0 at *
  refine (HC.out _).mono ?_
  rintro e w1 ⟨rfl, hB1⟩
  have HK1 := hid' (HK.out.below hB1)
  have c0 : w1.cell? ⟨w.heap.size, 0, none⟩ = some (.int .i64 2) := by simpa using HK1.out.cell 0
  have c2 : w1.cell? ⟨w.heap.size, 2, none⟩ = some (.int .i64 p) := by simpa using HK1.out.cell 2
  have c3 : w1.cell? ⟨w.heap.size, 3, none⟩ = some (.int .i64 n) := by simpa using HK1.out.cell 3
  have HB1 := hid' (bel_then HB0.out hB1)
  have hsz := HB1.out.size
  clear hB1
  go_wp2_with (go_at_call 22; refine (percent_New p n _ hp0 hp1 (by omega)).mono ?_; rintro e w2 ⟨g, rg, rb, rfl, hG, hB2⟩)
  go_ret2
  rw [show (max n 1).toNat = n.toNat by omega] at hG
  exact ⟨g, rg, rb, rfl, hG.lower hsz, bel_then HB1.out hB2⟩
theorem ta_b0 (v : Value) (w : World) : (Instr.typeAssert (.iface 99 v) 51 101 true).run Try.prog w = .ok (.tuple #[.iface 99 v, .bool true]) w := by kernel_rfl
theorem ta_b1 (v : Value) (w : World) : (Instr.typeAssert (.iface 97 v) 51 101 true).run Try.prog w = .ok (.tuple #[.nilIface, .bool false]) w := run_typeAssert_lacksB Try.underlying101 (by kernel_rfl) (by kernel_rfl) v _ w
theorem ta_b2 (v : Value) (w : World) : (Instr.typeAssert (.iface 40 v) 51 101 true).run Try.prog w = .ok (.tuple #[.nilIface, .bool false]) w := run_typeAssert_lacksB Try.underlying101 (by kernel_rfl) (by kernel_rfl) v _ w
theorem ta_p1 (v : Value) (w : World) : (Instr.typeAssert (.iface 97 v) 51 40 true).run Try.prog w = .ok (.tuple #[.pointer none, .bool false]) w := by kernel_rfl
theorem ta_p2 (v : Value) (w : World) : (Instr.typeAssert (.iface 40 v) 51 40 true).run Try.prog w = .ok (.tuple #[v, .bool true]) w := by kernel_rfl
theorem me_b0 (v : Value) (w : World) : (method 273 99 v "Bound").run Try.prog w = .ok (128, v) w := by kernel_rfl
set_option maxHeartbeats 4000000 in
theorem gen_Slack0 (g : Nat) (b now most : Int) (w : World) (h : BGen w g b now most) :
    Calls Try.prog 32 #[.iface 99 (.pointer (some ⟨g, 0, none⟩))] w fun e w' => e = .returned (.tuple #[.int .i64 b, .bool true]) ∧ w = w' := by
  have HB := hid' (bounded_Bound g b now most w h)
  go_enter Try.func32, Try.ntmps32
  go_wp2
  rw [ta_b0]
  go_wp2
  rw [me_b0]
  go_wp2_with (go_at_call 128; refine (HB.out).mono ?_; rintro e w2 ⟨rfl, rfl⟩)
  go_ret2
  exact ⟨rfl, rfl⟩
set_option maxHeartbeats 4000000 in
theorem gen_Slack1 (g : Nat) (w : World) :
    Calls Try.prog 32 #[.iface 97 (.pointer (some ⟨g, 0, none⟩))] w fun e w' => e = .returned (.tuple #[.int .i64 0, .bool false]) ∧ w = w' := by
  go_enter Try.func32, Try.ntmps32
  go_wp2
  rw [ta_b1]
  go_wp2
  rw [ta_p1]
  go_wp2
  go_ret2
  exact ⟨rfl, rfl⟩
set_option maxHeartbeats 4000000 in
theorem gen_Slack2 {w : World} {B g rg rb : Nat} {v : Value} {p : Int} {n : Nat} {q : List Int} {now most : Int} (h : PGen w B g rg rb v p n q now most) :
    Calls Try.prog 32 #[.iface 40 (.pointer (some ⟨g, 0, none⟩))] w fun e w' => e = .returned (.tuple #[.int .i64 (pLag q p), .bool true]) ∧ Below w.heap.size w w' := by
  have HL := hid' (percent_Lag h)
  go_enter Try.func32, Try.ntmps32
  go_wp2
  rw [ta_b2]
  go_wp2
  rw [ta_p2]
  go_wp2_with (go_at_call 24; refine (HL.out).mono ?_; rintro e w2 ⟨rfl, hB2⟩)
  go_ret2
  exact ⟨rfl, hB2⟩
end Go.Proofs.Ytcgonoepndlofaa
