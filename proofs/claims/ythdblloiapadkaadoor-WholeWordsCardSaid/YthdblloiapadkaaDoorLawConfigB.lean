
/- The laws of configurations: whether there can be any source, walked. No condition but the tables and variables of Go's own library. -/
import Derived.Test.YthdblloiapadkaaDoorConfigI
import Derived.Test.YthdblloiapadkaaDoorOpen
import Derived.Test.YthdblloiapadkaaDoorCells
namespace Go.Proofs.YthdblloiapadkaaDoor
set_option maxRecDepth 100000
set_option linter.unusedSimpArgs false
open Go.RowKit
set_option linter.unusedVariables false
set_option linter.unusedSimpArgs false

def RRl (w : World) (cs : List Value) (x : Rl) : Prop := cs.length = 5 ∧ (RInt .i64) w ((cs.drop 0).take 1) x.1 ∧ (RInt .i64) w ((cs.drop 1).take 1) x.2.1 ∧ (RInt .i64) w ((cs.drop 2).take 1) x.2.2.1 ∧ (RInt .i64) w ((cs.drop 3).take 1) x.2.2.2.1 ∧ (RInt .i64) w ((cs.drop 4).take 1) x.2.2.2.2
theorem RRl.cells {w : World} {cs : List Value} {x : Rl} (h : RRl w cs x) : cs = fRl x ∧ rlI x := by
  obtain ⟨hl, ⟨h1, w1⟩, ⟨h2, w2⟩, ⟨h3, w3⟩, ⟨h4, w4⟩, ⟨h5, w5⟩⟩ := h
  match cs, hl with
  | [a, b, c, d, e], _ =>
    simp at h1 h2 h3 h4 h5
    subst h1 h2 h3 h4 h5
    exact ⟨rfl, I64.of_wf w1, I64.of_wf w2, I64.of_wf w3, I64.of_wf w4, I64.of_wf w5⟩
def RCfg (w : World) (cs : List Value) (x : List Rl × Int × Int) : Prop := cs.length = 3 ∧ (RSl 5 RRl) w ((cs.drop 0).take 1) x.1 ∧ (RInt .i64) w ((cs.drop 1).take 1) x.2.1 ∧ (RInt .i64) w ((cs.drop 2).take 1) x.2.2
theorem RCfg.open_ {w : World} {cs : Array Value} {x : List Rl × Int × Int} (h : RCfg w cs.toList x) : ∃ A c, cs = #[.slice A x.1.length c, .int .i64 x.2.1, .int .i64 x.2.2] ∧ RdS w A 5 fRl x.1 ∧ x.1.length ≤ maxLen ∧ (∀ r ∈ x.1, rlI r) ∧ I64 x.2.1 ∧ I64 x.2.2 := by
  obtain ⟨hl, ⟨A, c, hsl, hle, hcm, hrow⟩, ⟨h2, w2⟩, ⟨h3, w3⟩⟩ := h
  obtain ⟨l⟩ := cs
  match l, hl with
  | [a, b, d], _ =>
    simp at hsl h2 h3
    subst hsl h2 h3
    refine ⟨A, c, rfl, fun j y hj => ?_, Nat.le_trans hle hcm, fun r hr => ?_, I64.of_wf w2, I64.of_wf w3⟩
    · obtain ⟨ad, row, e, ha, hl, hc⟩ := hrow j y hj
      obtain ⟨rfl, _⟩ := ha.cells
      exact ⟨ad, e, rfl, hc⟩
    · obtain ⟨j, hj⟩ := List.getElem?_of_mem hr
      obtain ⟨ad, row, e, ha, hl, hc⟩ := hrow j r hj
      exact ha.cells.2
theorem firstErr_zero (n : Nat) : firstErr (List.replicate n (0, 0, 0, 0, 0)) = 0 := firstErr_none (fun x hx => by
  rw [List.eq_of_mem_replicate hx]; rfl)
def zRl : Rl := (0, 0, 0, 0, 0)
theorem made_rl {w : World} {A : Option Addr} {n : Nat} (h : Rd w A (madeCells #[.int .i64 0, .int .i64 0, .int .i64 0, .int .i64 0, .int .i64 0] (n * 5)).toList) : RdS w A 5 fRl (List.replicate n zRl) := fun j x hx => by
  have hjn : j < n := by have := (List.getElem?_eq_some_iff.1 hx).1; simpa using this
  have hxz : x = zRl := by rw [List.getElem?_replicate] at hx; rw [if_pos hjn] at hx; exact (Option.some.inj hx).symm
  subst hxz
  have hz : ∀ m, m < n * 5 → (madeCells #[.int .i64 0, .int .i64 0, .int .i64 0, .int .i64 0, .int .i64 0] (n * 5)).toList[m]? = some (.int .i64 0) := by
    intro m hm
    rw [Array.getElem?_toList]
    unfold madeCells
    rw [Array.getElem?_map, Array.getElem?_range, if_pos hm]
    have h5 : m % 5 < 5 := Nat.mod_lt _ (by decide)
    show some (#[(.int .i64 0 : Value), .int .i64 0, .int .i64 0, .int .i64 0, .int .i64 0][m % 5]!) = _
    generalize m % 5 = q at h5
    match q, h5 with
    | 0, _ => rfl
    | 1, _ => rfl
    | 2, _ => rfl
    | 3, _ => rfl
    | 4, _ => rfl
  obtain ⟨ad, hA, c0⟩ := h (j * 5) _ (hz (j * 5) (by omega))
  refine ⟨ad, hA, rfl, fun i u hi => ?_⟩
  have hi5 : i < 5 := (List.getElem?_eq_some_iff.1 hi).1
  have hu : u = .int .i64 0 := by
    match i, hi5 with
    | 0, _ => exact (Option.some.inj hi).symm
    | 1, _ => exact (Option.some.inj hi).symm
    | 2, _ => exact (Option.some.inj hi).symm
    | 3, _ => exact (Option.some.inj hi).symm
    | 4, _ => exact (Option.some.inj hi).symm
  subst hu
  obtain ⟨ad', hA', c1⟩ := h (j * 5 + i) _ (hz (j * 5 + i) (by omega))
  rw [hA] at hA'; injection hA' with hA'; subst hA'
  rw [add_add']; exact c1
theorem cChkQ (A : Option Addr) (c : Nat) (l : List Rl) (t d : Int) (w : World) (hr : RdS w A 5 fRl l) (hl : l.length ≤ maxLen) : ∀ k os, Calls Tryd.prog 34 #[.agg #[.slice A l.length c, .int .i64 t, .int .i64 d]] (Go.Sort.grow (redrawn w k) os) fun e w'' => e = .returned (.int .i64 (cfgC l t d)) ∧ ∃ p : Regrown, w'' = Go.Sort.grow (redrawn w p.d) p.os :=
  fun k os => Calls.regrown_of (config_Check A c l t d _ (hr.below (below_regrown w k os)) hl)
theorem rChkQ (A : Option Addr) (c : Nat) (l : List Rl) (t d : Int) (w : World) (hr : RdS w A 5 fRl l) (hl : l.length ≤ maxLen) : ∀ k os, Calls Tryd.prog 35 #[.agg #[.slice A l.length c, .int .i64 t, .int .i64 d]] (Go.Sort.grow (redrawn w k) os) fun e w'' => e = .returned (.int .i64 (cfgC l t d)) ∧ ∃ p : Regrown, w'' = Go.Sort.grow (redrawn w p.d) p.os :=
  fun k os => Calls.regrown_of (ref19_Check A c l t d _ (hr.below (below_regrown w k os)) hl)
set_option maxHeartbeats 16000000 in
theorem configChecks (cs : Array Value) (x : List Rl × Int × Int) (m : Int) (w : World) (hc : RCfg w cs.toList x) (hm : (Lit.int .u8 m).wf = true) (hP : PowT w) (hE : ErV w) (hM : MaxT w) :
    Calls Tryd.prog 9 #[.agg cs, .int .u8 m] w fun e w' => e = .returned (.bool true) ∧ Below w.heap.size w w' := by
  obtain ⟨A, c, rfl, hr, hl, _, _, _⟩ := hc.open_
  obtain ⟨l, t, d⟩ := x
  simp only at hr hl ⊢
  have hm2 := wf_u8 hm
  obtain ⟨mn, rfl⟩ := Int.eq_ofNat_of_zero_le hm2.1
  have HS := hid' (fun W (hB : Below w.heap.size w W) => speaks19 W (hP.below hB) (hE.below hB) (hM.below hB))
  have HR := hid' hr
  have HK0 := hid' (Blk.new_ w 45 #[.slice A l.length c, .int .i64 t, .int .i64 d])
  have HL0 := hid' (bel_alloc (bel_refl w) (.cells #[.slice A l.length c, .int .i64 t, .int .i64 d] 45))
  have hlm : l.length ≤ 9223372036854775807 := by unfold maxLen at hl; omega
  have hlM := hl
  clear hc hr hP hE hM hm
  by_cases hbig : 5000 < l.length
  · have hb1 : (5000 : Int) < (l.length : Int) := by omega
    go_enter Tryd.func9, Tryd.ntmps9
    go_wp2_with fail
    refine (HS.out _ HL0.out).mono ?_
    rintro e w1 ⟨rfl, hB1⟩
    have c0 : w1.cell? ⟨w.heap.size, 0, none⟩ = some (.slice A l.length c) := by simpa using (HK0.out.below hB1).cell 0
    go_wp2
    go_ret
    exact ⟨rfl, bel_then HL0.out hB1⟩
  · have hb1 : (l.length : Int) ≤ 5000 := by omega
    obtain ⟨q, hq⟩ : ∃ q, q = mn % 12 := ⟨_, rfl⟩
    obtain ⟨n, hn⟩ : ∃ n, n = 4090 + q := ⟨_, rfl⟩
    have hqi : (mn : Int).tmod 12 = (q : Int) := by rw [Int.tmod_eq_emod_of_nonneg (by omega)]; omega
    have hqi2 : (mn : Int) % 12 = (q : Int) := by omega
    have hni : (4090 : Int) + (q : Int) = (n : Int) := by omega
    have hn1 : 4090 ≤ n ∧ n ≤ 4101 := by omega
    have hmk := mkn_run (P := Tryd.prog) 43 54 (.agg #[.int .i64 0, .int .i64 0, .int .i64 0, .int .i64 0, .int .i64 0]) 5 40 (by kernel_rfl) (by kernel_rfl) n (by omega) (by omega)
    have hmk' : ∀ W : World, (Instr.makeSlice 43 (.int .i64 (n : Int)) (.int .i64 (n : Int))).run Tryd.prog W = .ok (.slice (some ⟨W.heap.size, 0, none⟩) n n) (W.alloc (.cells (madeCells #[.int .i64 0, .int .i64 0, .int .i64 0, .int .i64 0, .int .i64 0] (n * 5)) 54)) := hmk
    have HMR := hid' (fun (W : World) => (made_rl (n := n) ((Blk.new_ W 54 (madeCells #[.int .i64 0, .int .i64 0, .int .i64 0, .int .i64 0, .int .i64 0] (n * 5))).rd rfl)))
    generalize madeCells #[.int .i64 0, .int .i64 0, .int .i64 0, .int .i64 0, .int .i64 0] (n * 5) = mc at *
    have hcd : cfgC (List.replicate n zRl) 1 0 = if 4096 < n then 6 else 0 := by
      unfold cfgC
      rw [List.length_replicate]
      by_cases h : 4096 < n
      · rw [if_pos (.inr h), if_pos h]
      · rw [if_neg (by omega), if_neg (by decide), if_neg h]; exact firstErr_zero n
    have HCD := hid' hcd
    clear hq hn hmk hcd hbig
    go_enter Tryd.func9, Tryd.ntmps9
    go_wp2_with fail
    refine (HS.out _ HL0.out).mono ?_
    rintro e w1 ⟨rfl, hB1⟩
    have HK1 := hid' (HK0.out.below hB1)
    have HL1 := hid' (bel_then HL0.out hB1)
    have c0 : w1.cell? ⟨w.heap.size, 0, none⟩ = some (.slice A l.length c) := by simpa using HK1.out.cell 0
    clear hB1
    go_wp2
    have hB1 := bel_alloc (bel_refl w1) (.cells mc 54)
    have hs1 : (w1.alloc (.cells mc 54)).heap.size = w1.heap.size + 1 := by simp
    have hR1 := HMR.out w1
    generalize hwa : w1.alloc (.cells mc 54) = wa at *
    have hB2 := bel_alloc (bel_refl wa) (.cells #[.slice (some ⟨w1.heap.size, 0, none⟩) n n, .int .i64 1, .int .i64 0] 45)
    have HJ := hid' (Blk.new_ wa 45 #[.slice (some ⟨w1.heap.size, 0, none⟩) n n, .int .i64 1, .int .i64 0])
    rw [hs1] at HJ
    generalize hw2 : wa.alloc (.cells #[.slice (some ⟨w1.heap.size, 0, none⟩) n n, .int .i64 1, .int .i64 0] 45) = w2 at *
    have hB12 := bel_then hB1 hB2
    have HK2 := hid' (HK1.out.below hB12)
    have HL2 := hid' (bel_then HL1.out hB12)
    have q0 := cell_regrown (show w2.cell? ⟨w.heap.size, 0, none⟩ = some (.slice A l.length c) by simpa using HK2.out.cell 0)
    have q1 := cell_regrown (show w2.cell? ⟨w.heap.size, 1, none⟩ = some (.int .i64 t) by simpa using HK2.out.cell 1)
    have q2 := cell_regrown (show w2.cell? ⟨w.heap.size, 2, none⟩ = some (.int .i64 d) by simpa using HK2.out.cell 2)
    have p0 := cell_regrown (show w2.cell? ⟨w1.heap.size + 1, 0, none⟩ = some (.slice (some ⟨w1.heap.size, 0, none⟩) n n) by simpa using HJ.out.cell 0)
    have p1 := cell_regrown (show w2.cell? ⟨w1.heap.size + 1, 1, none⟩ = some (.int .i64 1) by simpa using HJ.out.cell 1)
    have p2 := cell_regrown (show w2.cell? ⟨w1.heap.size + 1, 2, none⟩ = some (.int .i64 0) by simpa using HJ.out.cell 2)
    have HC1 := hid' (cChkQ A c l t d w2 (HR.out.below HL2.out) hlM)
    have HC2 := hid' (rChkQ A c l t d w2 (HR.out.below HL2.out) hlM)
    have hC3 := cChkQ (some ⟨w1.heap.size, 0, none⟩) n (List.replicate n zRl) 1 0 w2 (hR1.below hB2) (by rw [List.length_replicate]; unfold maxLen; omega)
    rw [List.length_replicate, HCD.out] at hC3
    have d0 : (cfgC l t d == cfgC l t d) = true := by simp
    generalize cfgC l t d = z at *
    clear hB1 hB2 hB12 hs1 hwa hw2 hR1 c0 HMR hmk'
    by_cases h : 4096 < n
    · rw [if_pos h] at hC3
      have HC3 := hid' hC3
      have hni2 : (4096 : Int) < (n : Int) := by omega
      have hni3 : ¬ (n : Int) ≤ 4096 := by omega
      clear hC3
      refine wp_region_quiet_below (by kernel_rfl) (by kernel_rfl) ?_
      repeat (quiet_step (first | with_reducible exact HC1.out _ _ | with_reducible exact HC2.out _ _ | with_reducible exact HC3.out _ _))
      refine wpQuiet_nil ?_
      intro _ hw'
      obtain ⟨⟨dq, osq⟩, hw''⟩ := hw'
      subst hw''
      have hBq := below_regrown w2 dq osq
      generalize Go.Sort.grow (redrawn w2 dq) osq = wq at *
      go_wp2
      go_ret
      refine ⟨?_, bel_then HL2.out hBq⟩
      first | rfl | go_simp
    · rw [if_neg h] at hC3
      have HC3 := hid' hC3
      have hni2 : (n : Int) ≤ 4096 := by omega
      clear hC3
      refine wp_region_quiet_below (by kernel_rfl) (by kernel_rfl) ?_
      repeat (quiet_step (first | with_reducible exact HC1.out _ _ | with_reducible exact HC2.out _ _ | with_reducible exact HC3.out _ _))
      refine wpQuiet_nil ?_
      intro _ hw'
      obtain ⟨⟨dq, osq⟩, hw''⟩ := hw'
      subst hw''
      have hBq := below_regrown w2 dq osq
      generalize Go.Sort.grow (redrawn w2 dq) osq = wq at *
      go_wp2
      go_ret
      refine ⟨?_, bel_then HL2.out hBq⟩
      first | rfl | go_simp
end Go.Proofs.YthdblloiapadkaaDoor
