
/- Which lag counts, and how far time has come, walked. No condition. -/
import Derived.Test.YtcgonoepndlofaaLawPercent
namespace Go.Proofs.Ytcgonoepndlofaa
set_option maxRecDepth 100000
set_option linter.unusedSimpArgs false
open Go.RowKit
set_option linter.unusedVariables false

set_option maxHeartbeats 40000000 in
theorem percentNows (part window : Int) (A : Option Addr) (c : Nat) (l : List Int) (w : World) (hpa : (Lit.int .u8 part).wf = true) (hwi : (Lit.int .u8 window).wf = true) (hr : Rd w A (l.map (.int .i64))) (hl : ∀ x ∈ l, (Lit.int .i64 x).wf = true) (hn : l.length ≤ maxLen) (hcap : l.length ≤ c) :
    Calls Try.prog 5 #[.int .u8 part, .int .u8 window, .slice A l.length c] w fun e w' => e = .returned (.bool true) ∧ Below w.heap.size w w' := by
  have hn' : l.length ≤ 9223372036854775807 := hn
  obtain ⟨hpa0, hpa1⟩ := wf_u8 hpa
  obtain ⟨hwi0, hwi1⟩ := wf_u8 hwi
  have HR := hid' hr
  have HL := hid' (fun x hx => I64.of_wf (hl x hx))
  clear hr hn hl hpa hwi
  obtain ⟨P, hP⟩ : ∃ P : Nat, part % 101 = (P : Int) := ⟨(part % 101).toNat, by omega⟩
  obtain ⟨Q, hQ⟩ : ∃ Q : Nat, window % 50 = (Q : Int) := ⟨(window % 50).toNat, by omega⟩
  obtain ⟨n, hnq⟩ : ∃ n : Nat, n = 1 + Q := ⟨_, rfl⟩
  have z1 : (1 : Int) + (Q : Int) = (n : Int) := by omega
  have hPb : P ≤ 100 := by omega
  have hnb : n ≤ 50 ∧ 1 ≤ n := by omega
  clear hnq
  go_enter Try.func5, Try.ntmps5
  go_wp2_with fail
  refine (law12_speaks w).mono ?_
  rintro e w1 ⟨rfl, hB⟩
  by_cases h2 : 40 < l.length
  · go_wp2
    go_ret
    exact ⟨rfl, hB⟩
  go_wp2_with fail
  refine (PG.new_ (P : Int) n w1 (by omega) (by omega) (by omega) hnb.2).mono ?_
  rintro e w2 ⟨g, rg, rb, rfl, hG, hB2⟩
  have HG := hid' hG
  have HB := hid' hB
  have HB2 := hid' hB2
  have HR1 := hid' (HR.out.below hB)
  clear hG hB hB2 HR
  go_wp2
  go_loopw [29] (fun v29 wr => ∃ (k : Nat) (v : Value), k ≤ l.length ∧ v29 = .int .i64 k ∧ PG wr w1.heap.size g rg rb v (P : Int) n (l.take k) ∧ Below w1.heap.size w1 wr) (fun v29 _ => l.length - (intOf v29).toNat)
  case atStart => exact ⟨0, _, by omega, rfl, HG.out, HB2.out⟩
  case round =>
    obtain ⟨k, v, hk, rfl, hG, hBr⟩ := hrel
    by_cases hlt : k < l.length
    · obtain ⟨ad, x, rfl, hx, hcx⟩ := Rd.at_ (HR1.out.below hBr) hlt
      have hxI := HL.out x (mem_of_get hx)
      have HT := hid' (take_snoc' hx)
      have HG1 := hid' hG
      obtain ⟨k1, hk1⟩ : ∃ k1, k1 = k + 1 := ⟨_, rfl⟩
      have y1 : (k : Int) + 1 = (k1 : Int) := by omega
      have y2 : IntKind.i64.wrap (k1 : Int) = (k1 : Int) := by rw [IntKind.wrap_i64]; omega
      have y3 : (0 : Int) ≤ (k1 : Int) := by omega
      have y4 : (k1 : Int) ≤ (c : Int) := by omega
      have y5 : (k1 : Int) ≤ (l.length : Int) := by omega
      have hcut := cut_h (P := Try.prog) 22 3 1 Try.underlying22 (by kernel_rfl) (some ad) l.length c k1 (by omega)
      rw [← hk1] at HT
      have htl : (l.take k1).length = k1 := by rw [List.length_take]; omega
      have htI : ∀ y ∈ l.take k1, I64 y := fun y hy => HL.out y (List.mem_of_mem_take hy)
      obtain ⟨q, hq⟩ : ∃ q, q = l.take k1 := ⟨_, rfl⟩
      have hRq := fun (W : World) (hb : Below w1.heap.size w1 W) => (HR1.out.below hb).take_map k1
      rw [← hq] at HT htl htI hRq
      obtain ⟨lg, hlg⟩ : ∃ lg, lg = pLag (winL n q) (P : Int) := ⟨_, rfl⟩
      obtain ⟨nw, hnw⟩ : ∃ nw, nw = pN q (P : Int) n := ⟨_, rfl⟩
      have HRQ := hid' (And.intro hRq (And.intro htl htI))
      have HLG := hid' hlg
      have HNW := hid' hnw
      have HQ := hid' hq
      have hkk := hid' hk1
      clear hG hx hq htl htI hRq hlg hnw hk1
      go_wp2_with fail
      refine (HG1.out.seen _ x _ hxI (by rw [List.length_take]; omega)).mono ?_
      rintro e w4 ⟨rfl, v4, hG4, hM4, hv4⟩
      have HB4 := hid' (bel_mod hBr hM4 (fun i hi hp => by have := (HG1.out.bound.1 i hp).1; omega))
      rw [← HT.out] at hG4
      have HG4 := hid' hG4
      have HLP := hid' (fun (W : World) (hb : Below w4.heap.size w4 W) => show Calls Try.prog 24 #[.pointer (some ⟨g, 0, none⟩)] W fun e w' => e = .returned (.int .i64 lg) ∧ Below w4.heap.size w4 w' from by
        have := (HG4.out.below hb).lag
        rw [← HLG.out] at this
        exact this.mono fun e w' ⟨he, hb'⟩ => ⟨he, bel_then hb hb'⟩)
      have HNP := hid' (fun (W : World) (hb : Below w4.heap.size w4 W) => show Calls Try.prog 26 #[.pointer (some ⟨g, 0, none⟩)] W fun e w' => e = .returned (.int .i64 nw) ∧ W = w' from by
        have := (HG4.out.below hb).now
        rw [← HNW.out] at this
        exact this)
      have HLA := hid' (fun (W : World) (hb : Below w4.heap.size w4 W) => show Calls Try.prog 25 #[.slice (some ad) k1 c, .int .i64 (P : Int), .int .i64 (n : Int)] W fun e w' => e = .returned (.int .i64 lg) ∧ Below w4.heap.size w4 w' from by
        obtain ⟨hRq, htl, htI⟩ := HRQ.out
        have := ref12_Lag (some ad) c q (P : Int) n W (hRq W (bel_then HB4.out hb)) htI (by omega) (by omega) (by omega) (by omega) (by omega)
        rw [htl, ← HLG.out] at this
        exact this.mono fun e w' ⟨he, hb'⟩ => ⟨he, bel_then hb hb'⟩)
      have HNO := hid' (fun (W : World) (hb : Below w4.heap.size w4 W) => show Calls Try.prog 27 #[.slice (some ad) k1 c, .int .i64 (P : Int), .int .i64 (n : Int)] W fun e w' => e = .returned (.int .i64 nw) ∧ Below w4.heap.size w4 w' from by
        obtain ⟨hRq, htl, htI⟩ := HRQ.out
        have := ref12_Now (some ad) c q (P : Int) n W (hRq W (bel_then HB4.out hb)) htI (by omega) (by omega) (by omega) (by omega) (by omega)
        have hnw := HNW.out
        unfold pN at hnw
        rw [← hnw, htl] at this
        exact this.mono fun e w' ⟨he, hb'⟩ => ⟨he, bel_then hb hb'⟩)
      clear hG4 hM4 hv4
      go_wp2_with fail
      have c1 : (lg != lg) = false := by simp
      have c2 : (nw != nw) = false := by simp
      go_region_with (first
        | (go_at_call 24; refine (HLP.out _ (by first | exact hbd | exact hbb | exact hba | exact bel_refl _ | exact bel_drew hbd | exact bel_drew hbb | exact bel_drew hba | exact bel_drew (bel_refl _) | exact bel_drewN hbd _ | exact bel_drewN hbb _ | exact bel_drewN hba _ | exact bel_drewN (bel_refl _) _)).mono ?_; rintro e wa ⟨rfl, hba⟩)
        | (go_at_call 25; refine (HLA.out _ (by first | exact hbd | exact hbb | exact hba | exact bel_refl _ | exact bel_drew hbd | exact bel_drew hbb | exact bel_drew hba | exact bel_drew (bel_refl _) | exact bel_drewN hbd _ | exact bel_drewN hbb _ | exact bel_drewN hba _ | exact bel_drewN (bel_refl _) _)).mono ?_; rintro e wb ⟨rfl, hbb⟩)
        | (go_at_call 26; refine (HNP.out _ (by first | exact hbd | exact hbb | exact hba | exact bel_refl _ | exact bel_drew hbd | exact bel_drew hbb | exact bel_drew hba | exact bel_drew (bel_refl _) | exact bel_drewN hbd _ | exact bel_drewN hbb _ | exact bel_drewN hba _ | exact bel_drewN (bel_refl _) _)).mono ?_; rintro e wc ⟨rfl, rfl⟩)
        | (go_at_call 27; refine (HNO.out _ (by first | exact hbd | exact hbb | exact hba | exact bel_refl _ | exact bel_drew hbd | exact bel_drew hbb | exact bel_drew hba | exact bel_drew (bel_refl _) | exact bel_drewN hbd _ | exact bel_drewN hbb _ | exact bel_drewN hba _ | exact bel_drewN (bel_refl _) _)).mono ?_; rintro e wd ⟨rfl, hbd⟩))
      go_wp2
      go_roundw
      case rel => exact ⟨k + 1, v4, by omega, by go_num, by rw [← hkk.out, ← HQ.out]; exact HG4.out.below hbd, bel_then HB4.out hbd⟩
      case measure => first | (simp [intOf]; done) | (simp [intOf]; omega)
    · go_wp2
      go_ret
      exact ⟨rfl, bel_then HB.out hBr⟩
end Go.Proofs.Ytcgonoepndlofaa
