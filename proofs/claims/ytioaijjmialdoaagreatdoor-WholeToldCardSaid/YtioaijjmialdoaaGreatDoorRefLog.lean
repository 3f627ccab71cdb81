
/- The reference of log.Parse, walked. No condition. -/
import Derived.Test.YtioaijjmialdoaaGreatDoorLog
import Derived.Test.YtioaijjmialdoaaGreatDoorFrameG
namespace Go.Proofs.YtioaijjmialdoaaGreatDoor
set_option maxRecDepth 100000
set_option linter.unusedSimpArgs false
open Go.RowKit
set_option linter.unusedVariables false
set_option linter.unusedSimpArgs false

def wCell (w : World) (b : Nat) : Nat := match w.cell? ⟨b, 1, none⟩ with | some (.int _ n) => n.toNat | _ => 0
theorem wCell_eq {w : World} {b : Nat} {T : TypeId} {v e : Value} {n : Nat} (h : Blk w b T #[v, .int .i64 (n : Int), e]) : wCell w b = n := by
  have h1 : w.cell? ⟨b, 1, none⟩ = some (.int .i64 (n : Int)) := by simpa using h.cell 1
  unfold wCell; rw [h1]; simp
theorem msetL {w W : World} {g i : Nat} {u : Value} (h : Mod (fun k => k = g) w W) : Mod (fun k => k = g) w (W.setCell ⟨g, i, none⟩ u) := h.setCell (fun _ => rfl) u
set_option maxHeartbeats 4000000 in
theorem ref06_Parse (s : ByteArray) (w : World) (hs : s.size ≤ 200000) :
    Calls Tryz.prog 11 #[.string s] w fun e w' => ∃ k v, e = .returned (.agg #[v, .int .i64 ((pSt s k).2 : Int), .int .i64 (pErr s (pSt s k).2)]) ∧ ¬ pLive s (pSt s k).2 ∧ (pSt s k).1.length = k ∧ w'.ownsRow w.heap.size 34 3 v k (recC (pSt s k).1) ∧ Below w.heap.size w w' := by
  have hs' : s.size ≤ 9223372036854775807 := by omega
  have hz : (zeroValue 46).run Tryz.prog w = .ok (.agg #[.slice none 0 0, .int .i64 0, .int .i64 0]) w := by kernel_rfl
  go_enter Tryz.func11, Tryz.ntmps11
  go_wp2
  have hk3 : Blk ((w.alloc (.cells #[.slice none 0 0, .int .i64 0, .int .i64 0] 46)).alloc (.cells #[.slice none 0 0, .int .i64 0, .int .i64 0] 46)) (w.heap.size + 1) 46 #[.slice none 0 0, .int .i64 0, .int .i64 0] := by
    rw [show w.heap.size + 1 = (w.alloc (.cells #[.slice none 0 0, .int .i64 0, .int .i64 0] 46)).heap.size by simp]
    exact Blk.new_ _ _ _
  have HK3 := hid' hk3
  clear hk3
  go_loopw [4] (fun v4 wr => ∃ (k : Nat) (v : Value), k ≤ (pSt s k).2 ∧ Blk wr w.heap.size 46 #[.slice none 0 0, .int .i64 0, .int .i64 0] ∧ Blk wr (w.heap.size + 1) 46 #[v, .int .i64 ((pSt s k).2 : Int), .int .i64 0] ∧ (pSt s k).1.length = k ∧ wr.ownsRow (w.heap.size + 2) 34 3 v k (recC (pSt s k).1) ∧ Below w.heap.size w wr) (fun _ wr => s.size - wCell wr (w.heap.size + 1))
  case atStart => exact ⟨0, .slice none 0 0, Nat.zero_le _, (Blk.new_ _ _ _).alloc _, HK3.out, rfl, own_nil' _ _ _ _, bel_alloc (bel_alloc (bel_refl w) _) _⟩
  case round =>
    obtain ⟨k, v, hk, hK2, hK3, hlen, hO, hL⟩ := hrel
    have hle := pSt_le s (by omega) k
    have c1 : wr.cell? ⟨w.heap.size + 1, 1, none⟩ = some (.int .i64 ((pSt s k).2 : Int)) := by simpa using hK3.cell 1
    by_cases hlt : (pSt s k).2 < s.size
    · obtain ⟨⟨⟨kd, t, x⟩, z, er⟩, hq⟩ : ∃ q, q = fGet (s.extract (pSt s k).2 s.size) := ⟨_, rfl⟩
      have HG := hid' (fun w => ref05_Get (s.extract (pSt s k).2 s.size) w (by rw [ByteArray.size_extract]; omega))
      rw [← hq] at HG
      unfold gotV at HG
      simp only at HG
      obtain ⟨V, hV⟩ : ∃ V, V = (pSt s k).2 := ⟨_, rfl⟩
      have HO := hid' hO
      have HL := hid' hL
      have HV := hid' hV
      have HQ := hid' hq
      have HLEN := hid' hlen
      have HK2 := hid' hK2
      rw [← hV] at hlt hle hk HG c1 hK3
      have HK3 := hid' hK3
      have j1 : (V : Int) ≤ (s.size : Int) := by omega
      have j2 : (V : Int) < (s.size : Int) := by omega
      clear hO hL hV hq hlen hK2 hK3
      by_cases he : er = 0
      · have hlive : pLive s (pSt s k).2 := ⟨by rw [← HV.out]; exact hlt, by rw [← HQ.out]; exact he⟩
        obtain ⟨r, n, h1, h0, h2, h3, -⟩ := pStep_live hlive (by omega)
        rw [← HQ.out] at h1
        injection h1 with h1a h1b
        injection h1b with h1b h1c
        subst h1a h1b h1c
        rw [← HV.out] at h2 h3
        have H3 := hid' (show pSt s (k + 1) = _ from h3)
        obtain ⟨m, hm⟩ : ∃ m, m = V + n := ⟨_, rfl⟩
        have i1 : (V : Int) + (n : Int) = (m : Int) := by omega
        rw [← hm] at h2 H3
        have hkm : k + 1 ≤ m := by omega
        clear hlive h3 he hm
        go_wp2_with fail
        refine (HG.out _).mono ?_
        rintro e w1 ⟨rfl, hB1⟩
        have hb2 := bel_alloc hB1 (.cells #[.int .i64 kd, .int .i64 t, .string x, .int .i64 (n : Int), .int .i64 0] 66)
        have HK2b := hid' (HK2.out.below hb2)
        have HK3b := hid' (HK3.out.below hb2)
        have HO2 := hid' (own_below HO.out hb2)
        have HL2 := hid' (bel_then HL.out hb2)
        have HGT := hid' (Blk.new_ w1 66 #[.int .i64 kd, .int .i64 t, .string x, .int .i64 (n : Int), .int .i64 0])
        have hs3 : (w1.alloc (.cells #[.int .i64 kd, .int .i64 t, .string x, .int .i64 (n : Int), .int .i64 0] 66)).heap.size = w1.heap.size + 1 := by simp
        have d0 : (w1.alloc (.cells #[.int .i64 kd, .int .i64 t, .string x, .int .i64 (n : Int), .int .i64 0] 66)).cell? ⟨w.heap.size + 1, 0, none⟩ = some v := by simpa using HK3b.out.cell 0
        have hlv := own_lt' HO.out
        have hbs1 := hB1.size
        have hbw := HL.out.size
        have hlt3 := HK3.out.lt
        have hone := hid' (fRec_one (kd, t, x))
        have hk32 : (k + 1) * 32 ≤ 140737488355328 := by omega
        have hbase := by exact Nat.le_trans (show w.heap.size + 2 ≤ wr.heap.size by omega) hb2.size
        clear hb2 c1
        go_wp2_with (at_builtin; (refine ap_cells (w.heap.size + 2) rfl (.tmp 24) (.tmp 27) 44 34 (.agg #[.int .i64 0, .int .i64 0, .string ⟨#[]⟩]) 3 32 rfl (by kernel_rfl) (by kernel_rfl) rfl (by decide) (by decide) v k (recC (pSt s k).1) [.int .i64 kd, .int .i64 t, .string x] rfl (by rw [hs3]; rfl) rfl hone.out HO2.out hbase hk32 ?_); intro v1 w3 hown hg hat; have hm3 := Mod.of_grown hg; have HK3c := hid' (HK3b.out.mod hm3 (fun h => by have := own_base' HO.out _ h; omega)); have HK2c := hid' (HK2b.out.mod hm3 (fun h => by have := own_base' HO.out _ h; omega)); have HGc := hid' (HGT.out.mod hm3 (fun h => by have := hlv _ h; omega)); have g3 : w3.cell? ⟨w1.heap.size, 3, none⟩ = some (.int .i64 (n : Int)) := (by simpa using HGc.out.cell 3); have b0 : w3.cell? ⟨w.heap.size + 1, 0, none⟩ = some v := (by simpa using HK3c.out.cell 0); have b1 : w3.cell? ⟨w.heap.size + 1, 1, none⟩ = some (.int .i64 (V : Int)) := (by simpa using HK3c.out.cell 1); have f0 := HK3c.out.frozen 0; have f1 := HK3c.out.frozen 1; have hne : w.heap.size + 1 ≠ w1.heap.size := (by omega); have HL3 := hid' (bel_mod HL2.out hm3 (fun i hi h => by have := own_base' HO.out i h; omega)); obtain ⟨A9, c9, rfl, -, -, -⟩ := own_rd hown; have HOWN := hid' hown; clear hm3 hown hg hat)
        have hk3 : Blk ((w3.setCell ⟨w.heap.size + 1, 0, none⟩ (.slice A9 (k + 1) c9)).setCell ⟨w.heap.size + 1, 1, none⟩ (.int .i64 (m : Int))) (w.heap.size + 1) 46 #[.slice A9 (k + 1) c9, .int .i64 (m : Int), .int .i64 0] := (HK3c.out.set 0 _).set 1 _
        refine ⟨⟨k + 1, .slice A9 (k + 1) c9, by rw [H3.out]; exact hkm, (HK2c.out.far (p := ⟨w.heap.size + 1, 0, none⟩) (by show w.heap.size ≠ w.heap.size + 1; omega) _).far (p := ⟨w.heap.size + 1, 1, none⟩) (by show w.heap.size ≠ w.heap.size + 1; omega) _, by rw [H3.out]; exact hk3, by rw [H3.out]; simp [HLEN.out], ?_, bel_set (bel_set HL3.out (by show w.heap.size ≤ w.heap.size + 1; omega) _) (by show w.heap.size ≤ w.heap.size + 1; omega) _⟩, ?_⟩
        · rw [H3.out, recC_snoc]
          exact own_mod HOWN.out (msetL (msetL (Mod.refl _ w3))) (fun i h hi => by have := own_base' HOWN.out i h; omega)
        · rw [wCell_eq hk3, wCell_eq HK3.out]; omega
      · have e1 : (er != 0) = true := by simpa using he
        have hlive : ¬ pLive s (pSt s k).2 := fun h => he (by have := h.2; rw [← HQ.out] at this; exact this)
        have hpe : pErr s (pSt s k).2 = er := by unfold pErr; rw [← HV.out, if_pos hlt, HV.out, ← HQ.out]
        have HLV := hid' hlive
        have HPE := hid' hpe
        clear hlive hpe he
        obtain ⟨Av, cv, rfl, -, -, -⟩ := own_rd HO.out
        go_wp2_with fail
        refine (HG.out _).mono ?_
        rintro e w1 ⟨rfl, hB1⟩
        have hb2 := bel_alloc hB1 (.cells #[.int .i64 kd, .int .i64 t, .string x, .int .i64 z, .int .i64 er] 66)
        have HK2b := hid' (HK2.out.below hb2)
        have HK3b := hid' (HK3.out.below hb2)
        have HO2 := hid' (own_below HO.out hb2)
        have HL2 := hid' (bel_then HL.out hb2)
        have hbs1 := hB1.size
        have hbw := HL.out.size
        have hlt3 := HK3.out.lt
        have hne : w.heap.size + 1 ≠ w1.heap.size := by omega
        have hne2 : w.heap.size ≠ w1.heap.size := by omega
        have a0 : (w1.alloc (.cells #[.int .i64 kd, .int .i64 t, .string x, .int .i64 z, .int .i64 er] 66)).cell? ⟨w.heap.size + 1, 0, none⟩ = some (.slice Av k cv) := by simpa using HK3b.out.cell 0
        have a1 : (w1.alloc (.cells #[.int .i64 kd, .int .i64 t, .string x, .int .i64 z, .int .i64 er] 66)).cell? ⟨w.heap.size + 1, 1, none⟩ = some (.int .i64 (V : Int)) := by simpa using HK3b.out.cell 1
        have a2 : (w1.alloc (.cells #[.int .i64 kd, .int .i64 t, .string x, .int .i64 z, .int .i64 er] 66)).cell? ⟨w.heap.size + 1, 2, none⟩ = some (.int .i64 0) := by simpa using HK3b.out.cell 2
        have r0 : (w1.alloc (.cells #[.int .i64 kd, .int .i64 t, .string x, .int .i64 z, .int .i64 er] 66)).cell? ⟨w.heap.size, 0, none⟩ = some (.slice none 0 0) := by simpa using HK2b.out.cell 0
        have r1 : (w1.alloc (.cells #[.int .i64 kd, .int .i64 t, .string x, .int .i64 z, .int .i64 er] 66)).cell? ⟨w.heap.size, 1, none⟩ = some (.int .i64 0) := by simpa using HK2b.out.cell 1
        have r2 : (w1.alloc (.cells #[.int .i64 kd, .int .i64 t, .string x, .int .i64 z, .int .i64 er] 66)).cell? ⟨w.heap.size, 2, none⟩ = some (.int .i64 0) := by simpa using HK2b.out.cell 2
        have fa2 := HK3b.out.frozen 2
        have fr0 := HK2b.out.frozen 0
        have fr1 := HK2b.out.frozen 1
        have fr2 := HK2b.out.frozen 2
        clear hb2 c1
        go_wp2
        refine bodyPost_ret (v := .agg #[.slice Av k cv, .int .i64 (V : Int), .int .i64 er]) ?_ rfl ⟨k, _, by rw [HPE.out, ← HV.out], HLV.out, HLEN.out, own_lower (own_mod (own_mod HO2.out (msetL (g := w.heap.size + 1) (Mod.refl _ _)) (fun i h hi => by have := own_base' HO2.out i h; omega)) (msetL (g := w.heap.size) (msetL (msetL (Mod.refl _ _)))) (fun i h hi => by have := own_base' HO2.out i h; omega)) (by omega), ?_⟩
        · rw [results_cell1 rfl]; go_simp
        · repeat (first | exact HL2.out | refine bel_set ?_ (by first | exact Nat.le_refl _ | exact Nat.le_succ _) _)
    · have hlive : ¬ pLive s (pSt s k).2 := fun h => hlt h.1
      have hpe : pErr s (pSt s k).2 = 0 := by unfold pErr; rw [if_neg hlt]
      obtain ⟨V, hV⟩ : ∃ V, V = (pSt s k).2 := ⟨_, rfl⟩
      have HLV := hid' hlive
      have HPE := hid' hpe
      have HO2 := hid' hO
      have HL2 := hid' hL
      have HLEN := hid' hlen
      have HV := hid' hV
      have HK2b := hid' hK2
      rw [← hV] at hlt hle hk c1 hK3
      have HK3b := hid' hK3
      clear hlive hpe hO hL hlen hK2 hK3 hV
      obtain ⟨Av, cv, rfl, -, -, -⟩ := own_rd HO2.out
      have a0 : wr.cell? ⟨w.heap.size + 1, 0, none⟩ = some (.slice Av k cv) := by simpa using HK3b.out.cell 0
      have a1 : wr.cell? ⟨w.heap.size + 1, 1, none⟩ = some (.int .i64 (V : Int)) := by simpa using HK3b.out.cell 1
      have a2 : wr.cell? ⟨w.heap.size + 1, 2, none⟩ = some (.int .i64 0) := by simpa using HK3b.out.cell 2
      have r0 : wr.cell? ⟨w.heap.size, 0, none⟩ = some (.slice none 0 0) := by simpa using HK2b.out.cell 0
      have r1 : wr.cell? ⟨w.heap.size, 1, none⟩ = some (.int .i64 0) := by simpa using HK2b.out.cell 1
      have r2 : wr.cell? ⟨w.heap.size, 2, none⟩ = some (.int .i64 0) := by simpa using HK2b.out.cell 2
      have fa2 := HK3b.out.frozen 2
      have fr0 := HK2b.out.frozen 0
      have fr1 := HK2b.out.frozen 1
      have fr2 := HK2b.out.frozen 2
      clear c1
      go_wp2
      refine bodyPost_ret (v := .agg #[.slice Av k cv, .int .i64 (V : Int), .int .i64 0]) ?_ rfl ⟨k, _, by rw [HPE.out, ← HV.out], HLV.out, HLEN.out, own_lower (own_mod HO2.out (msetL (g := w.heap.size) (msetL (msetL (Mod.refl _ _)))) (fun i h hi => by have := own_base' HO2.out i h; omega)) (by omega), ?_⟩
      · rw [results_cell1 rfl]; go_simp
      · repeat (first | exact HL2.out | refine bel_set ?_ (by first | exact Nat.le_refl _ | exact Nat.le_succ _) _)
end Go.Proofs.YtioaijjmialdoaaGreatDoor
