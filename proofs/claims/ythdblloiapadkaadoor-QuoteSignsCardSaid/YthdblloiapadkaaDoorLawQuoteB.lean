
/- The laws of texts in marks, walked: there and back, and signs. No condition but the tables and variables of Go's own library. -/
import Derived.Test.YthdblloiapadkaaDoorLawQuote
namespace Go.Proofs.YthdblloiapadkaaDoor
set_option maxRecDepth 100000
set_option linter.unusedSimpArgs false
open Go.RowKit
set_option linter.unusedVariables false
set_option linter.unusedSimpArgs false

theorem quote_gb (s : ByteArray) (i : Nat) (h : i < (strOf (quoteP s)).size) : 32 ≤ gb (strOf (quoteP s)) i ∧ gb (strOf (quoteP s)) i ≤ 126 := by
  have h1 := getD_nat (strOf (quoteP s)) i h
  have hl : i < (quoteP s).length := h
  have hm : (bL (strOf (quoteP s))).getD i 0 ∈ quoteP s := by
    rw [bL_str, List.getD_eq_getElem?_getD, List.getElem?_eq_getElem hl]
    exact List.getElem_mem hl
  rw [h1] at hm
  have h2 := quoteP_plain s _ hm
  have h3 := gb_lt (strOf (quoteP s)) i
  have h4 : (UInt8.ofNat (gb (strOf (quoteP s)) i)).toNat = gb (strOf (quoteP s)) i := by simp; omega
  rw [h4] at h2
  exact h2
set_option maxHeartbeats 8000000 in
theorem quoteBack (s : ByteArray) (w : World) (hq : s.size ≤ maxLen) (hZ : TzT w) (hE : ErT w) (hT : U8T w) :
    Calls Tryd.prog 3 #[.string s] w fun e w' => e = .returned (.bool true) ∧ Below w.heap.size w w' := by
  have HT := hid' hT
  have HZ := hid' hZ
  have HE := hid' hE
  have HS := hid' (speaks04 w hT hZ hE)
  have hqm : s.size ≤ 9223372036854775807 := by unfold maxLen at hq; omega
  clear hT hZ hE
  by_cases hbig : 500 < s.size
  · have hb1 : (500 : Int) < (s.size : Int) := by omega
    go_enter Tryd.func3, Tryd.ntmps3
    go_wp2_with fail
    refine HS.out.mono ?_
    rintro e w1 ⟨rfl, hB1⟩
    go_wp2
    go_ret
    exact ⟨rfl, hB1⟩
  · have hb1 : (s.size : Int) ≤ 500 := by omega
    have HQ := hid' (fun W => quote_Quote s W (by omega))
    have HR := hid' (fun W => ref04_Quote s W (by omega))
    have hb := quote_gb s
    have hqs : (strOf (quoteP s)).size ≤ 6002 := by
      have := quoteP_len s
      show (quoteP s).length ≤ _
      omega
    have hun : unqP (bL (strOf (quoteP s))) = some (bL s) := unqP_quote s
    obtain ⟨q, hqq⟩ : ∃ q, q = strOf (quoteP s) := ⟨_, rfl⟩
    rw [← hqq] at HQ HR hb hqs hun
    have HU := hid' (fun W => quote_Unquote q W (by omega))
    rw [hun, show uS (some (bL s)) = s from bL_inj (bL_str _), show uB (some (bL s)) = true from rfl] at HU
    have HB := hid' hb
    have hq6 : q.size ≤ 9223372036854775807 := by omega
    clear hun hqq hb hbig
    go_enter Tryd.func3, Tryd.ntmps3
    go_wp2_with fail
    refine HS.out.mono ?_
    rintro e w1 ⟨rfl, hB1⟩
    go_wp2_with fail
    refine (HQ.out w1 (HT.out.below hB1) (HZ.out.below hB1)).mono ?_
    rintro e w2 ⟨rfl, hB2⟩
    have HL2 := hid' (bel_then hB1 hB2)
    clear hB1 hB2
    go_wp2
    go_loopw [4, 16] (fun v4 v16 wr => ∃ i : Nat, i ≤ q.size ∧ v16 = .int .i64 i ∧ Below w.heap.size w wr) (fun _ v16 _ => q.size - (intOf v16).toNat)
    case atStart => exact ⟨0, Nat.zero_le _, rfl, HL2.out⟩
    case round =>
      obtain ⟨i, hi, rfl, hL⟩ := hrel
      by_cases hlt : i < q.size
      · have hlti : (i : Int) < (q.size : Int) := by omega
        have hg := HB.out i hlt
        have hgs : (q[i]'hlt).toNat = gb q i := (gb_eq q i hlt).symm
        generalize gb q i = g at *
        have g1 : (32 : Int) ≤ (g : Int) := by omega
        have g2 : (g : Int) ≤ 126 := by omega
        go_wp2
        go_roundw
        case rel => exact ⟨i + 1, by omega, by go_num, hL⟩
        case measure => (simp only [intOf]; omega)
      · obtain rfl : i = q.size := by omega
        have HL := hid' hL
        clear hL hlt
        go_wp2_with fail
        refine (HU.out wr (HT.out.below HL.out) (HZ.out.below HL.out) (HE.out.below HL.out)).mono ?_
        rintro e w3 ⟨rfl, hB3⟩
        have hL3 := bel_then HL.out hB3
        go_wp2_with fail
        refine (HR.out w3).mono ?_
        rintro e w4 ⟨rfl, hB4⟩
        go_wp2
        go_ret
        exact ⟨rfl, bel_then hL3 hB4⟩
theorem signs_i64 (s : ByteArray) (n : Int) (h : n ∈ signs s) : I64 n := by
  have := sSt_mem s s.size n h
  unfold I64; omega
theorem hasB_mem {s : ByteArray} {n : Int} (h : n ∈ signs s) : hasB s n = decide (0 ≤ n) := by
  unfold hasB
  by_cases h0 : 0 ≤ n
  · rw [decide_eq_true ⟨h, h0⟩, decide_eq_true h0]
  · rw [decide_eq_false (fun h => h0 h.2), decide_eq_false h0]
set_option maxHeartbeats 8000000 in
theorem quoteSigns (s : ByteArray) (n : Int) (w : World) (hq : s.size ≤ maxLen) (hn : (Lit.int .i64 n).wf = true) (hZ : TzT w) (hE : ErT w) (hT : U8T w) :
    Calls Tryd.prog 5 #[.string s, .int .i64 n] w fun e w' => e = .returned (.bool true) ∧ Below w.heap.size w w' := by
  have HT := hid' hT
  have HS := hid' (speaks04 w hT hZ hE)
  have hqm : s.size ≤ 9223372036854775807 := by unfold maxLen at hq; omega
  clear hT hZ hE
  by_cases hbig : 500 < s.size
  · have hb1 : (500 : Int) < (s.size : Int) := by omega
    go_enter Tryd.func5, Tryd.ntmps5
    go_wp2_with fail
    refine HS.out.mono ?_
    rintro e w1 ⟨rfl, hB1⟩
    go_wp2
    go_ret
    exact ⟨rfl, hB1⟩
  · have hb1 : (s.size : Int) ≤ 500 := by omega
    have hsz : s.size ≤ 200000 := by omega
    have hls := signs_len s
    have hlm : (signs s).length ≤ 9223372036854775807 := by omega
    have HG := hid' (fun W hT => quote_Signs s W hsz hT)
    have HR := hid' (fun W => ref04_Signs s W hsz)
    have HH1 := hid' (fun W hT => quote_Has s n W hsz (I64.of_wf hn) hT)
    have HH2 := hid' (fun W => ref04_Has s n W hsz)
    have HHi := hid' (fun (x : Int) (hx : x ∈ signs s) (W : World) (hT : U8T W) => (by
      have := quote_Has s x W hsz (signs_i64 s x hx) hT
      rw [hasB_mem hx] at this
      exact this : Calls Tryd.prog 22 #[.string s, .int .i64 x] W fun e w' => e = .returned (.bool (decide (0 ≤ x))) ∧ Below W.heap.size W w'))
    generalize signs s = L at *
    generalize hasB s n = b at *
    have HS' := hid' (fun (A B : Option Addr) (c d : Nat) (W : World) (h : Rd W A (L.map iV)) (h' : Rd W B (L.map iV)) => (by
      have := ref_Same A B c d L L W h h' hlm hlm
      rw [decide_eq_true (rfl : L = L)] at this
      exact this : Calls Tryd.prog 20 #[.slice A L.length c, .slice B L.length d] W fun e w' => e = .returned (.bool true) ∧ Dr W w'))
    have hbb : (b != b) = false := by simp
    clear hls hbig
    go_enter Tryd.func5, Tryd.ntmps5
    go_wp2_with fail
    refine HS.out.mono ?_
    rintro e w1 ⟨rfl, hB1⟩
    go_wp2_with fail
    refine (HG.out w1 (HT.out.below hB1)).mono ?_
    rintro e w2 ⟨v, rfl, hown, hB2⟩
    obtain ⟨A, c, rfl, hc1, hc2, hrd⟩ := own_rd hown
    have hL2 := bel_then hB1 hB2
    have HRD := hid' hrd
    clear hown hrd hB1 hB2
    go_wp2_with fail
    refine (HR.out w2).mono ?_
    rintro e w3 ⟨v3, rfl, hown3, hB3⟩
    obtain ⟨A3, c3, rfl, _, _, hrd3⟩ := own_rd hown3
    have HRD3 := hid' (HRD.out.below hB3)
    have hL3 := bel_then hL2 hB3
    have HQ3 := hid' hrd3
    clear hown3 hrd3 hB3 hL2
    go_wp2_with fail
    refine (HS'.out A A3 c c3 w3 HRD3.out HQ3.out).mono ?_
    rintro e w4 ⟨rfl, hd4⟩
    have hL4 := bel_then hL3 hd4.below
    have HRD4 := hid' (HRD3.out.below hd4.below)
    clear hL3 hd4
    go_wp2_with fail
    refine (HH1.out w4 (HT.out.below hL4)).mono ?_
    rintro e w5 ⟨rfl, hB5⟩
    go_wp2_with fail
    refine (HH2.out w5).mono ?_
    rintro e w6 ⟨rfl, hB6⟩
    have HL6 := hid' (bel_then (bel_then hL4 hB5) hB6)
    have HRD6 := hid' ((HRD4.out.below hB5).below hB6)
    clear hL4 hB5 hB6
    go_wp2
    go_loopw [7, 31] (fun v7 v31 wr => ∃ i : Nat, i ≤ L.length ∧ v31 = .int .i64 i ∧ Below w.heap.size w wr ∧ Rd wr A (L.map iV)) (fun _ v31 _ => L.length - (intOf v31).toNat)
    case atStart => exact ⟨0, Nat.zero_le _, rfl, HL6.out, HRD6.out⟩
    case round =>
      obtain ⟨i, hi, rfl, hL, hrd⟩ := hrel
      by_cases hlt : i < L.length
      · have hlti : (i : Int) < (L.length : Int) := by omega
        obtain ⟨ad, x, rfl, hx, hcell⟩ := hrd.at_ hlt
        change wr.cell? (ad.add i) = some (.int .i64 x) at hcell
        have HX := hid' (HHi.out x (List.mem_of_getElem? hx) wr (HT.out.below hL))
        have HL := hid' hL
        have HRD := hid' hrd
        have hbx : (decide (0 ≤ x) != decide (0 ≤ x)) = false := by simp
        clear hL hrd hx
        go_wp2_with fail
        refine HX.out.mono ?_
        rintro e w7 ⟨rfl, hB7⟩
        go_wp2
        go_roundw
        case rel => exact ⟨i + 1, by omega, by go_num, bel_then HL.out hB7, HRD.out.below hB7⟩
        case measure => (simp only [intOf]; omega)
      · obtain rfl : i = L.length := by omega
        have HL := hid' hL
        clear hL hrd hlt
        go_wp2
        go_ret
        exact ⟨rfl, HL.out⟩
end Go.Proofs.YthdblloiapadkaaDoor
