
/- Any event in words, and back: the law, walked. No condition but the tables and variables of Go's own library. -/
import Derived.Test.YtioaijjmialdoaaDoorLawEvent
namespace Go.Proofs.YtioaijjmialdoaaDoor
set_option maxRecDepth 100000
set_option linter.unusedSimpArgs false
open Go.RowKit
set_option linter.unusedVariables false
set_option linter.unusedSimpArgs false

theorem textE_two (e : Ev) : strOf (textE [e, e]) = strOf (lineE e) ++ ⟨#[10]⟩ ++ strOf (lineE e) ++ ⟨#[10]⟩ := by
  show _ = strOf (lineE e) ++ strOf [10] ++ strOf (lineE e) ++ strOf [10]
  rw [strN_app, strN_app, strN_app]
  unfold textE
  simp
def sc8 (w2 : World) (b : Nat) (v0 v1 v2 v3 v4 v5 v6 v7 : Value) : World := ((((((((w2.setCell ⟨b, 0, none⟩ v0).setCell ⟨b, 1, none⟩ v1).setCell ⟨b, 2, none⟩ v2).setCell ⟨b, 3, none⟩ v3).setCell ⟨b, 4, none⟩ v4).setCell ⟨b, 5, none⟩ v5).setCell ⟨b, 6, none⟩ v6).setCell ⟨b, 7, none⟩ v7)
theorem set8 {w2 : World} {b : Nat} {T : TypeId} {c0 c1 c2 c3 c4 c5 c6 c7 : Value} (h : Blk w2 b T #[c0, c1, c2, c3, c4, c5, c6, c7]) (v0 v1 v2 v3 v4 v5 v6 v7 : Value) : Blk (sc8 w2 b v0 v1 v2 v3 v4 v5 v6 v7) b T #[v0, v1, v2, v3, v4, v5, v6, v7] := by
  unfold sc8
  have h0 : Blk (w2.setCell ⟨b, 0, none⟩ v0) b T #[v0, c1, c2, c3, c4, c5, c6, c7] := h.set 0 v0
  have h1 : Blk _ b T #[v0, v1, c2, c3, c4, c5, c6, c7] := h0.set 1 v1
  have h2 : Blk _ b T #[v0, v1, v2, c3, c4, c5, c6, c7] := h1.set 2 v2
  have h3 : Blk _ b T #[v0, v1, v2, v3, c4, c5, c6, c7] := h2.set 3 v3
  have h4 : Blk _ b T #[v0, v1, v2, v3, v4, c5, c6, c7] := h3.set 4 v4
  have h5 : Blk _ b T #[v0, v1, v2, v3, v4, v5, c6, c7] := h4.set 5 v5
  have h6 : Blk _ b T #[v0, v1, v2, v3, v4, v5, v6, c7] := h5.set 6 v6
  exact h6.set 7 v7
theorem bel8 {w w2 : World} {b : Nat} (h : Below w.heap.size w w2) (hb : w.heap.size ≤ b) (v0 v1 v2 v3 v4 v5 v6 v7 : Value) : Below w.heap.size w (sc8 w2 b v0 v1 v2 v3 v4 v5 v6 v7) := by
  unfold sc8
  exact bel_set (bel_set (bel_set (bel_set (bel_set (bel_set (bel_set (bel_set h hb _) hb _) hb _) hb _) hb _) hb _) hb _) hb _
theorem sc8_eq (w2 : World) (b : Nat) (v0 v1 v2 v3 v4 v5 v6 v7 : Value) : ((((((((w2.setCell ⟨b, 0, none⟩ v0).setCell ⟨b, 1, none⟩ v1).setCell ⟨b, 2, none⟩ v2).setCell ⟨b, 3, none⟩ v3).setCell ⟨b, 4, none⟩ v4).setCell ⟨b, 5, none⟩ v5).setCell ⟨b, 6, none⟩ v6).setCell ⟨b, 7, none⟩ v7) = sc8 w2 b v0 v1 v2 v3 v4 v5 v6 v7 := rfl
set_option maxHeartbeats 16000000 in
theorem eventBack (cs : Array Value) (x : PD) (w : World) (hx : RPd w cs.toList x) (hP : PowT w) (hE : ErV w) (hM : MaxT w) (hT : U8T w) (hZ : TzT w) :
    Calls Tryd.prog 5 #[.agg cs] w fun e w' => e = .returned (.bool true) ∧ Below w.heap.size w w' := by
  obtain ⟨hcs, hI, hsz⟩ := hx.cells
  have hcs2 : cs = (fPd x).toArray := by rw [← hcs]
  subst hcs2
  obtain ⟨k, p, ⟨rk, rt, rx⟩, lt, at_, er⟩ := x
  have hs' : rx.size ≤ 9223372036854775807 := hsz
  unfold fPd
  simp only
  have HK := hid' (Blk.new_ w 31 #[.int .i64 k, .int .i64 p, .int .i64 rk, .int .i64 rt, .string rx, .bool lt, .int .i64 at_, .int .i64 er])
  have HL0 := hid' (bel_alloc (bel_refl w) (.cells #[.int .i64 k, .int .i64 p, .int .i64 rk, .int .i64 rt, .string rx, .bool lt, .int .i64 at_, .int .i64 er] 31))
  have HS := hid' (speaks22 _ (hP.below HL0.out) (hE.below HL0.out) (hM.below HL0.out) (hT.below HL0.out) (hZ.below HL0.out))
  have HP := hid' hP
  have HE := hid' hE
  have HM := hid' hM
  have HT := hid' hT
  have HZ := hid' hZ
  have HI := hid' hI
  clear hcs hx hP hE hM hT hZ hI hsz
  by_cases hbig : 300 < rx.size
  · go_enter Tryd.func5, Tryd.ntmps5
    go_wp2_with fail
    refine HS.out.mono ?_
    rintro e w1 ⟨rfl, hB1⟩
    have HK1 := HK.out.below hB1
    have x0 : (w1).cell? ⟨w.heap.size, 0, none⟩ = some (.int .i64 k) := (HK1).cell 0
    have x1 : (w1).cell? ⟨w.heap.size, 1, none⟩ = some (.int .i64 p) := (HK1).cell 1
    have x2 : (w1).cell? ⟨w.heap.size, 2, none⟩ = some (.int .i64 rk) := (HK1).cell 2
    have x3 : (w1).cell? ⟨w.heap.size, 3, none⟩ = some (.int .i64 rt) := (HK1).cell 3
    have x4 : (w1).cell? ⟨w.heap.size, 4, none⟩ = some (.string rx) := (HK1).cell 4
    have x5 : (w1).cell? ⟨w.heap.size, 5, none⟩ = some (.bool lt) := (HK1).cell 5
    have x6 : (w1).cell? ⟨w.heap.size, 6, none⟩ = some (.int .i64 at_) := (HK1).cell 6
    have x7 : (w1).cell? ⟨w.heap.size, 7, none⟩ = some (.int .i64 er) := (HK1).cell 7
    have HL1 := hid' (bel_then HL0.out hB1)
    clear HK1 hB1
    go_wp2
    go_ret
    exact ⟨rfl, HL1.out⟩
  go_enter Tryd.func5, Tryd.ntmps5
  go_wp2_with fail
  refine HS.out.mono ?_
  rintro e w1 ⟨rfl, hB1⟩
  have HK1 := hid' (HK.out.below hB1)
  have x0 : (w1).cell? ⟨w.heap.size, 0, none⟩ = some (.int .i64 k) := (HK1.out).cell 0
  have x1 : (w1).cell? ⟨w.heap.size, 1, none⟩ = some (.int .i64 p) := (HK1.out).cell 1
  have x2 : (w1).cell? ⟨w.heap.size, 2, none⟩ = some (.int .i64 rk) := (HK1.out).cell 2
  have x3 : (w1).cell? ⟨w.heap.size, 3, none⟩ = some (.int .i64 rt) := (HK1.out).cell 3
  have x4 : (w1).cell? ⟨w.heap.size, 4, none⟩ = some (.string rx) := (HK1.out).cell 4
  have x5 : (w1).cell? ⟨w.heap.size, 5, none⟩ = some (.bool lt) := (HK1.out).cell 5
  have x6 : (w1).cell? ⟨w.heap.size, 6, none⟩ = some (.int .i64 at_) := (HK1.out).cell 6
  have x7 : (w1).cell? ⟨w.heap.size, 7, none⟩ = some (.int .i64 er) := (HK1.out).cell 7
  have HL1 := hid' (bel_then HL0.out hB1)
  have HTI := hid' (law22_tidy k p rk rt rx lt at_ er w1)
  clear hB1 HS
  go_wp2_with fail
  refine HTI.out.mono ?_
  rintro e w2 ⟨rfl, hB2⟩
  have hY := tidy_of (k, p, (rk, rt, rx), lt, at_, er)
  have HEI := hid' (pdEv_I (x := (k, p, (rk, rt, rx), lt, at_, er)) HI.out (by show rx.size ≤ 1000; omega))
  rw [hY]
  have HK2 := hid' (HK1.out.below hB2)
  have hsh := HK2.out.shape
  have f0 := HK2.out.frozen 0
  have f1 := HK2.out.frozen 1
  have f2 := HK2.out.frozen 2
  have f3 := HK2.out.frozen 3
  have f4 := HK2.out.frozen 4
  have f5 := HK2.out.frozen 5
  have f6 := HK2.out.frozen 6
  have f7 := HK2.out.frozen 7
  have HL2 := hid' (bel_then HL1.out hB2)
  obtain ⟨ev, hev⟩ : ∃ ev, ev = pdEv (k, p, (rk, rt, rx), lt, at_, er) := ⟨_, rfl⟩
  rw [← hev] at HEI ⊢
  clear hY hB2 HI hbig HTI hev x0 x1 x2 x3 x4 x5 x6 x7
  have x0 : (w2).cell? ⟨w.heap.size, 0, none⟩ = some (.int .i64 k) := (HK2.out).cell 0
  have x1 : (w2).cell? ⟨w.heap.size, 1, none⟩ = some (.int .i64 p) := (HK2.out).cell 1
  have x2 : (w2).cell? ⟨w.heap.size, 2, none⟩ = some (.int .i64 rk) := (HK2.out).cell 2
  have x3 : (w2).cell? ⟨w.heap.size, 3, none⟩ = some (.int .i64 rt) := (HK2.out).cell 3
  have x4 : (w2).cell? ⟨w.heap.size, 4, none⟩ = some (.string rx) := (HK2.out).cell 4
  have x5 : (w2).cell? ⟨w.heap.size, 5, none⟩ = some (.bool lt) := (HK2.out).cell 5
  have x6 : (w2).cell? ⟨w.heap.size, 6, none⟩ = some (.int .i64 at_) := (HK2.out).cell 6
  have x7 : (w2).cell? ⟨w.heap.size, 7, none⟩ = some (.int .i64 er) := (HK2.out).cell 7
  cases ev with
  | elem p2 k2 t2 y b2 =>
    have HK3 := hid' (set8 HK2.out (.int .i64 0) (.int .i64 p2) (.int .i64 k2) (.int .i64 t2) (.string y) (.bool b2) (.int .i64 0) (.int .i64 0))
    have HL3 := hid' (bel8 HL2.out (Nat.le_refl _) (.int .i64 0) (.int .i64 p2) (.int .i64 k2) (.int .i64 t2) (.string y) (.bool b2) (.int .i64 0) (.int .i64 0))
    simp only [pdOf, fPd]
    go_wp2_with fail
    rw [sc8_eq]
    generalize sc8 w2 w.heap.size (.int .i64 0) (.int .i64 p2) (.int .i64 k2) (.int .i64 t2) (.string y) (.bool b2) (.int .i64 0) (.int .i64 0) = w3 at *
    clear x0 x1 x2 x3 x4 x5 x6 x7 f0 f1 f2 f3 f4 f5 f6 f7 hsh
    refine (law22_Of 0 p2 k2 t2 y b2 0 0 w3).mono ?_
    rintro e w4 ⟨rfl, hB4⟩
    have HK4 := hid' (HK3.out.below hB4)
    have HL4 := hid' (bel_then HL3.out hB4)
    clear hB4
    have hee : pdE 0 p2 (k2, t2, y) b2 0 0 = .elem p2 k2 t2 y b2 := rfl
    rw [hee]
    obtain ⟨L1, hL1⟩ : ∃ L1, L1 = lineE (.elem p2 k2 t2 y b2) := ⟨_, rfl⟩
    have hLC := elem_Line p2 k2 t2 y b2 w4 HEI.out.1 HEI.out.2 (HP.out.below HL4.out) (HT.out.below HL4.out) (HZ.out.below HL4.out)
    rw [← hL1] at hLC
    have HLC := hid' hLC
    have hll := lineE_len HEI.out.1 HEI.out.2
    have hre := readE_line HEI.out.1
    rw [← hL1] at hll hre
    have HRE := hid' hre
    have HLL := hid' hL1
    have heq := eq_ev (.elem p2 k2 t2 y b2)
    clear hLC hre hL1 hee
    simp only [evV] at heq ⊢
    go_wp2_with fail
    rw [me_e]
    go_wp2_with fail
    refine HLC.out.mono ?_
    rintro e w5 ⟨rfl, hB5⟩
    have HL5 := hid' (bel_then HL4.out hB5)
    have HK5 := hid' (HK4.out.below hB5)
    have hER := event_Read (strOf L1) w5 (by show L1.length ≤ _; omega) (HP.out.below HL5.out) (HE.out.below HL5.out) (HM.out.below HL5.out) (HT.out.below HL5.out) (HZ.out.below HL5.out)
    rw [bL_str, HRE.out] at hER
    have HER := hid' hER
    clear hB5 hER
    go_wp2_with fail
    refine HER.out.mono ?_
    rintro e w6 ⟨rfl, hB6⟩
    have HL6 := hid' (bel_then HL5.out hB6)
    have HK6 := hid' (HK5.out.below hB6)
    have x0 : (w6).cell? ⟨w.heap.size, 0, none⟩ = some (.int .i64 0) := (HK6.out).cell 0
    have x1 : (w6).cell? ⟨w.heap.size, 1, none⟩ = some (.int .i64 p2) := (HK6.out).cell 1
    have x2 : (w6).cell? ⟨w.heap.size, 2, none⟩ = some (.int .i64 k2) := (HK6.out).cell 2
    have x3 : (w6).cell? ⟨w.heap.size, 3, none⟩ = some (.int .i64 t2) := (HK6.out).cell 3
    have x4 : (w6).cell? ⟨w.heap.size, 4, none⟩ = some (.string y) := (HK6.out).cell 4
    have x5 : (w6).cell? ⟨w.heap.size, 5, none⟩ = some (.bool b2) := (HK6.out).cell 5
    have x6 : (w6).cell? ⟨w.heap.size, 6, none⟩ = some (.int .i64 0) := (HK6.out).cell 6
    have x7 : (w6).cell? ⟨w.heap.size, 7, none⟩ = some (.int .i64 0) := (HK6.out).cell 7
    have hRL := ref22_Line 0 p2 k2 t2 y b2 0 0 w6 ⟨HEI.out.1.1, HEI.out.1.2.1, HEI.out.1.2.2, (by unfold I64; decide), (by unfold I64; decide)⟩ HEI.out.2
    have hpe : lineE (pdE 0 p2 (k2, t2, y) b2 0 0) = L1 := HLL.out.symm
    rw [hpe] at hRL
    have HRL := hid' hRL
    clear hB6 hpe hRL
    unfold evO
    simp only [evV]
    go_wp2_with fail
    refine HRL.out.mono ?_
    rintro e w7 ⟨rfl, hB7⟩
    have HL7 := hid' (bel_then HL6.out hB7)
    have HPA := hid' (event_Part (.elem p2 k2 t2 y b2) w7)
    simp only [evV, evPart] at HPA
    clear hB7 x0 x1 x2 x3 x4 x5 x6 x7
    go_wp2_with fail
    refine HPA.out.mono ?_
    rintro e w8 ⟨rfl, hB8⟩
    have HL8 := hid' (bel_then HL7.out hB8)
    have hb9 := bel_alloc (bel_refl w8) (.cells #[evV (.elem p2 k2 t2 y b2), evV (.elem p2 k2 t2 y b2)] 24)
    have HL9 := hid' (bel_then HL8.out hb9)
    have hTX := event_Text (some ⟨w8.heap.size, 0, none⟩) 2 [.elem p2 k2 t2 y b2, .elem p2 k2 t2 y b2] _ ((Blk.new_ w8 24 #[evV (.elem p2 k2 t2 y b2), evV (.elem p2 k2 t2 y b2)]).rd rfl) (by simp) (by intro e he; simp at he; subst he; exact HEI.out) (HP.out.below HL9.out) (HT.out.below HL9.out) (HZ.out.below HL9.out)
    rw [textE_two, ← HLL.out] at hTX
    have HTX := hid' hTX
    simp only [evV] at HTX
    clear hB8 hb9 hTX
    have z1 : (strOf L1).size + 1 ≤ 9223372036854775807 := by show L1.length + 1 ≤ _; omega
    have z2 : (strOf L1).size + 1 + (strOf L1).size ≤ 9223372036854775807 := by show L1.length + 1 + L1.length ≤ _; omega
    have z3 : (strOf L1).size + 1 + (strOf L1).size + 1 ≤ 9223372036854775807 := by show L1.length + 1 + L1.length + 1 ≤ _; omega
    go_wp2_with fail
    refine HTX.out.mono ?_
    rintro e w10 ⟨rfl, hB10⟩
    have HL10 := hid' (bel_then HL9.out hB10)
    clear hB10
    go_wp2
    go_ret
    exact ⟨rfl, HL10.out⟩
  | mark a =>
    have HK3 := hid' (set8 HK2.out (.int .i64 1) (.int .i64 0) (.int .i64 0) (.int .i64 0) (.string ⟨#[]⟩) (.bool false) (.int .i64 a) (.int .i64 0))
    have HL3 := hid' (bel8 HL2.out (Nat.le_refl _) (.int .i64 1) (.int .i64 0) (.int .i64 0) (.int .i64 0) (.string ⟨#[]⟩) (.bool false) (.int .i64 a) (.int .i64 0))
    simp only [pdOf, fPd]
    go_wp2_with fail
    rw [sc8_eq]
    generalize sc8 w2 w.heap.size (.int .i64 1) (.int .i64 0) (.int .i64 0) (.int .i64 0) (.string ⟨#[]⟩) (.bool false) (.int .i64 a) (.int .i64 0) = w3 at *
    clear x0 x1 x2 x3 x4 x5 x6 x7 f0 f1 f2 f3 f4 f5 f6 f7 hsh
    refine (law22_Of 1 0 0 0 ⟨#[]⟩ false a 0 w3).mono ?_
    rintro e w4 ⟨rfl, hB4⟩
    have HK4 := hid' (HK3.out.below hB4)
    have HL4 := hid' (bel_then HL3.out hB4)
    clear hB4
    have hee : pdE 1 0 (0, 0, ⟨#[]⟩) false a 0 = .mark a := rfl
    rw [hee]
    obtain ⟨L1, hL1⟩ : ∃ L1, L1 = lineE (.mark a) := ⟨_, rfl⟩
    have hLC := mark_Line a w4 HEI.out.1 (HP.out.below HL4.out)
    rw [← hL1] at hLC
    have HLC := hid' hLC
    have hll := lineE_len HEI.out.1 HEI.out.2
    have hre := readE_line HEI.out.1
    rw [← hL1] at hll hre
    have HRE := hid' hre
    have HLL := hid' hL1
    have heq := eq_ev (.mark a)
    clear hLC hre hL1 hee
    simp only [evV] at heq ⊢
    go_wp2_with fail
    rw [me_m]
    go_wp2_with fail
    refine HLC.out.mono ?_
    rintro e w5 ⟨rfl, hB5⟩
    have HL5 := hid' (bel_then HL4.out hB5)
    have HK5 := hid' (HK4.out.below hB5)
    have hER := event_Read (strOf L1) w5 (by show L1.length ≤ _; omega) (HP.out.below HL5.out) (HE.out.below HL5.out) (HM.out.below HL5.out) (HT.out.below HL5.out) (HZ.out.below HL5.out)
    rw [bL_str, HRE.out] at hER
    have HER := hid' hER
    clear hB5 hER
    go_wp2_with fail
    refine HER.out.mono ?_
    rintro e w6 ⟨rfl, hB6⟩
    have HL6 := hid' (bel_then HL5.out hB6)
    have HK6 := hid' (HK5.out.below hB6)
    have x0 : (w6).cell? ⟨w.heap.size, 0, none⟩ = some (.int .i64 1) := (HK6.out).cell 0
    have x1 : (w6).cell? ⟨w.heap.size, 1, none⟩ = some (.int .i64 0) := (HK6.out).cell 1
    have x2 : (w6).cell? ⟨w.heap.size, 2, none⟩ = some (.int .i64 0) := (HK6.out).cell 2
    have x3 : (w6).cell? ⟨w.heap.size, 3, none⟩ = some (.int .i64 0) := (HK6.out).cell 3
    have x4 : (w6).cell? ⟨w.heap.size, 4, none⟩ = some (.string ⟨#[]⟩) := (HK6.out).cell 4
    have x5 : (w6).cell? ⟨w.heap.size, 5, none⟩ = some (.bool false) := (HK6.out).cell 5
    have x6 : (w6).cell? ⟨w.heap.size, 6, none⟩ = some (.int .i64 a) := (HK6.out).cell 6
    have x7 : (w6).cell? ⟨w.heap.size, 7, none⟩ = some (.int .i64 0) := (HK6.out).cell 7
    have hRL := ref22_Line 1 0 0 0 ⟨#[]⟩ false a 0 w6 ⟨(by unfold I64; decide), (by unfold I64; decide), (by unfold I64; decide), HEI.out.1, (by unfold I64; decide)⟩ (by show (0 : Nat) ≤ 1000; omega)
    have hpe : lineE (pdE 1 0 (0, 0, ⟨#[]⟩) false a 0) = L1 := HLL.out.symm
    rw [hpe] at hRL
    have HRL := hid' hRL
    clear hB6 hpe hRL
    unfold evO
    simp only [evV]
    go_wp2_with fail
    refine HRL.out.mono ?_
    rintro e w7 ⟨rfl, hB7⟩
    have HL7 := hid' (bel_then HL6.out hB7)
    have HPA := hid' (event_Part (.mark a) w7)
    simp only [evV, evPart] at HPA
    clear hB7 x0 x1 x2 x3 x4 x5 x6 x7
    go_wp2_with fail
    refine HPA.out.mono ?_
    rintro e w8 ⟨rfl, hB8⟩
    have HL8 := hid' (bel_then HL7.out hB8)
    have hb9 := bel_alloc (bel_refl w8) (.cells #[evV (.mark a), evV (.mark a)] 24)
    have HL9 := hid' (bel_then HL8.out hb9)
    have hTX := event_Text (some ⟨w8.heap.size, 0, none⟩) 2 [.mark a, .mark a] _ ((Blk.new_ w8 24 #[evV (.mark a), evV (.mark a)]).rd rfl) (by simp) (by intro e he; simp at he; subst he; exact HEI.out) (HP.out.below HL9.out) (HT.out.below HL9.out) (HZ.out.below HL9.out)
    rw [textE_two, ← HLL.out] at hTX
    have HTX := hid' hTX
    simp only [evV] at HTX
    clear hB8 hb9 hTX
    have z1 : (strOf L1).size + 1 ≤ 9223372036854775807 := by show L1.length + 1 ≤ _; omega
    have z2 : (strOf L1).size + 1 + (strOf L1).size ≤ 9223372036854775807 := by show L1.length + 1 + L1.length ≤ _; omega
    have z3 : (strOf L1).size + 1 + (strOf L1).size + 1 ≤ 9223372036854775807 := by show L1.length + 1 + L1.length + 1 ≤ _; omega
    go_wp2_with fail
    refine HTX.out.mono ?_
    rintro e w10 ⟨rfl, hB10⟩
    have HL10 := hid' (bel_then HL9.out hB10)
    clear hB10
    go_wp2
    go_ret
    exact ⟨rfl, HL10.out⟩
  | fault p2 c =>
    have HK3 := hid' (set8 HK2.out (.int .i64 2) (.int .i64 p2) (.int .i64 0) (.int .i64 0) (.string ⟨#[]⟩) (.bool false) (.int .i64 0) (.int .i64 c))
    have HL3 := hid' (bel8 HL2.out (Nat.le_refl _) (.int .i64 2) (.int .i64 p2) (.int .i64 0) (.int .i64 0) (.string ⟨#[]⟩) (.bool false) (.int .i64 0) (.int .i64 c))
    simp only [pdOf, fPd]
    go_wp2_with fail
    rw [sc8_eq]
    generalize sc8 w2 w.heap.size (.int .i64 2) (.int .i64 p2) (.int .i64 0) (.int .i64 0) (.string ⟨#[]⟩) (.bool false) (.int .i64 0) (.int .i64 c) = w3 at *
    clear x0 x1 x2 x3 x4 x5 x6 x7 f0 f1 f2 f3 f4 f5 f6 f7 hsh
    refine (law22_Of 2 p2 0 0 ⟨#[]⟩ false 0 c w3).mono ?_
    rintro e w4 ⟨rfl, hB4⟩
    have HK4 := hid' (HK3.out.below hB4)
    have HL4 := hid' (bel_then HL3.out hB4)
    clear hB4
    have hee : pdE 2 p2 (0, 0, ⟨#[]⟩) false 0 c = .fault p2 c := rfl
    rw [hee]
    obtain ⟨L1, hL1⟩ : ∃ L1, L1 = lineE (.fault p2 c) := ⟨_, rfl⟩
    have hLC := fault_Line p2 c w4 HEI.out.1 (HP.out.below HL4.out)
    rw [← hL1] at hLC
    have HLC := hid' hLC
    have hll := lineE_len HEI.out.1 HEI.out.2
    have hre := readE_line HEI.out.1
    rw [← hL1] at hll hre
    have HRE := hid' hre
    have HLL := hid' hL1
    have heq := eq_ev (.fault p2 c)
    clear hLC hre hL1 hee
    simp only [evV] at heq ⊢
    go_wp2_with fail
    rw [me_f]
    go_wp2_with fail
    refine HLC.out.mono ?_
    rintro e w5 ⟨rfl, hB5⟩
    have HL5 := hid' (bel_then HL4.out hB5)
    have HK5 := hid' (HK4.out.below hB5)
    have hER := event_Read (strOf L1) w5 (by show L1.length ≤ _; omega) (HP.out.below HL5.out) (HE.out.below HL5.out) (HM.out.below HL5.out) (HT.out.below HL5.out) (HZ.out.below HL5.out)
    rw [bL_str, HRE.out] at hER
    have HER := hid' hER
    clear hB5 hER
    go_wp2_with fail
    refine HER.out.mono ?_
    rintro e w6 ⟨rfl, hB6⟩
    have HL6 := hid' (bel_then HL5.out hB6)
    have HK6 := hid' (HK5.out.below hB6)
    have x0 : (w6).cell? ⟨w.heap.size, 0, none⟩ = some (.int .i64 2) := (HK6.out).cell 0
    have x1 : (w6).cell? ⟨w.heap.size, 1, none⟩ = some (.int .i64 p2) := (HK6.out).cell 1
    have x2 : (w6).cell? ⟨w.heap.size, 2, none⟩ = some (.int .i64 0) := (HK6.out).cell 2
    have x3 : (w6).cell? ⟨w.heap.size, 3, none⟩ = some (.int .i64 0) := (HK6.out).cell 3
    have x4 : (w6).cell? ⟨w.heap.size, 4, none⟩ = some (.string ⟨#[]⟩) := (HK6.out).cell 4
    have x5 : (w6).cell? ⟨w.heap.size, 5, none⟩ = some (.bool false) := (HK6.out).cell 5
    have x6 : (w6).cell? ⟨w.heap.size, 6, none⟩ = some (.int .i64 0) := (HK6.out).cell 6
    have x7 : (w6).cell? ⟨w.heap.size, 7, none⟩ = some (.int .i64 c) := (HK6.out).cell 7
    have hRL := ref22_Line 2 p2 0 0 ⟨#[]⟩ false 0 c w6 ⟨HEI.out.1.1, (by unfold I64; decide), (by unfold I64; decide), (by unfold I64; decide), HEI.out.1.2⟩ (by show (0 : Nat) ≤ 1000; omega)
    have hpe : lineE (pdE 2 p2 (0, 0, ⟨#[]⟩) false 0 c) = L1 := HLL.out.symm
    rw [hpe] at hRL
    have HRL := hid' hRL
    clear hB6 hpe hRL
    unfold evO
    simp only [evV]
    go_wp2_with fail
    refine HRL.out.mono ?_
    rintro e w7 ⟨rfl, hB7⟩
    have HL7 := hid' (bel_then HL6.out hB7)
    have HPA := hid' (event_Part (.fault p2 c) w7)
    simp only [evV, evPart] at HPA
    clear hB7 x0 x1 x2 x3 x4 x5 x6 x7
    go_wp2_with fail
    refine HPA.out.mono ?_
    rintro e w8 ⟨rfl, hB8⟩
    have HL8 := hid' (bel_then HL7.out hB8)
    have hb9 := bel_alloc (bel_refl w8) (.cells #[evV (.fault p2 c), evV (.fault p2 c)] 24)
    have HL9 := hid' (bel_then HL8.out hb9)
    have hTX := event_Text (some ⟨w8.heap.size, 0, none⟩) 2 [.fault p2 c, .fault p2 c] _ ((Blk.new_ w8 24 #[evV (.fault p2 c), evV (.fault p2 c)]).rd rfl) (by simp) (by intro e he; simp at he; subst he; exact HEI.out) (HP.out.below HL9.out) (HT.out.below HL9.out) (HZ.out.below HL9.out)
    rw [textE_two, ← HLL.out] at hTX
    have HTX := hid' hTX
    simp only [evV] at HTX
    clear hB8 hb9 hTX
    have z1 : (strOf L1).size + 1 ≤ 9223372036854775807 := by show L1.length + 1 ≤ _; omega
    have z2 : (strOf L1).size + 1 + (strOf L1).size ≤ 9223372036854775807 := by show L1.length + 1 + L1.length ≤ _; omega
    have z3 : (strOf L1).size + 1 + (strOf L1).size + 1 ≤ 9223372036854775807 := by show L1.length + 1 + L1.length + 1 ≤ _; omega
    go_wp2_with fail
    refine HTX.out.mono ?_
    rintro e w10 ⟨rfl, hB10⟩
    have HL10 := hid' (bel_then HL9.out hB10)
    clear hB10
    go_wp2
    go_ret
    exact ⟨rfl, HL10.out⟩
end Go.Proofs.YtioaijjmialdoaaDoor
