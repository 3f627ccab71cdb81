
/- Configurations in words (config.Print), walked. No condition but the tables of Go's own library. -/
import Derived.Test.YthdblloiapadkaaDoorConfigE
namespace Go.Proofs.YthdblloiapadkaaDoor
set_option maxRecDepth 100000
set_option linter.unusedSimpArgs false
open Go.RowKit
set_option linter.unusedVariables false
set_option linter.unusedSimpArgs false

set_option maxHeartbeats 8000000 in
theorem config_Print (A : Option Addr) (cp : Nat) (l : List Rl) (t d : Int) (w : World) (hr : RdS w A 5 fRl l) (hl : l.length ≤ 1000) (hI : ∀ r ∈ l, rlI r) (ht : I64 t) (hd : I64 d) (hP : PowT w) :
    Calls Tryd.prog 44 #[.agg #[.slice A l.length cp, .int .i64 t, .int .i64 d]] w fun e w' => e = .returned (.string (strOf (cfgL l t d))) ∧ Below w.heap.size w w' := by
  have HK := hid' (Blk.new_ w 45 #[.slice A l.length cp, .int .i64 t, .int .i64 d])
  have HL0 := hid' (bel_alloc (bel_refl w) (.cells #[.slice A l.length cp, .int .i64 t, .int .i64 d] 45))
  have HR := hid' hr
  have HI := hid' hI
  have HP := hid' hP
  have HZ := hid' (fun k => cfgL_len (l := l.take k) (fun r hr => hI r (List.mem_of_mem_take hr)) ht hd)
  have HTD := hid' (And.intro ht hd)
  clear hr hI hP ht hd
  go_enter Tryd.func44, Tryd.ntmps44
  go_wp2_with fail
  have hs0 : (w.alloc (.cells #[.slice A l.length cp, .int .i64 t, .int .i64 d] 45)).heap.size = w.heap.size + 1 := by simp
  generalize hw0 : w.alloc (.cells #[.slice A l.length cp, .int .i64 t, .int .i64 d] 45) = w0 at *
  have HS0 := hid' hs0
  have HU0 := hid' (USt.new_ w0)
  have hlt0 : w.heap.size < w0.heap.size := HK.out.lt
  have hne0 : w.heap.size ≠ w0.heap.size := by omega
  clear hs0
  have hb1 := bel_alloc (bel_refl w0) (.cells #[.pointer none, .slice none 0 0] 77)
  have HK1 := hid' (HK.out.below hb1)
  have HL1 := hid' (bel_then HL0.out hb1)
  have hs1 : (w0.alloc (.cells #[.pointer none, .slice none 0 0] 77)).heap.size = w.heap.size + 1 + 1 := by rw [← hw0]; simp
  generalize hw1 : w0.alloc (.cells #[.pointer none, .slice none 0 0] 77) = w1 at *
  have c1 : w1.cell? ⟨w.heap.size, 1, none⟩ = some (.int .i64 t) := by simpa using HK1.out.cell 1
  have c2 : w1.cell? ⟨w.heap.size, 2, none⟩ = some (.int .i64 d) := by simpa using HK1.out.cell 2
  have hba := bel_alloc (bel_refl w1) (.cells #[.int .i64 t, .int .i64 d] 3)
  have HX := hid' (config_line ⟨#[115, 111, 117, 114, 99, 101]⟩ (some ⟨w1.heap.size, 0, none⟩) 2 [t, d] _ ((Blk.new_ w1 3 #[.int .i64 t, .int .i64 d]).rd rfl) (by intro x hx; simp at hx; rcases hx with rfl | rfl; exact HTD.out.1; exact HTD.out.2) (by simp) (by decide) (HP.out.below (bel_then HL1.out hba)))
  rw [show bL ⟨#[115, 111, 117, 114, 99, 101]⟩ = wSource from rfl, hs1] at HX
  have HUa := hid' (HU0.out.below hba)
  have hfst : cfgL (l.take 0) t d = lnL wSource [t, d] := by rw [List.take_zero]; unfold cfgL; simp
  have HF := hid' hfst
  clear hb1 hba hw1 hfst HU0 hs1
  go_wp2_with fail
  refine HX.out.mono ?_
  rintro e w2 ⟨rfl, hB2⟩
  have HU2 := hid' (HUa.out.below hB2)
  have hz0 := HZ.out 0
  rw [HF.out] at hz0
  have hz1 : (lnL wSource [t, d]).length ≤ 60 := by simpa using hz0
  have HW := hid' (USt.str HU2.out (strOf (lnL wSource [t, d])) (by show 0 + (lnL wSource [t, d]).length ≤ _; omega))
  rw [List.nil_append, bL_str, HS0.out] at HW
  clear hB2 hz0 hz1
  generalize hsL : lnL wSource [t, d] = sL at *
  go_wp2_with fail
  refine HW.out.mono ?_
  rintro e w3 ⟨⟨r3, rfl⟩, hU3⟩
  have c0 : w3.cell? ⟨w.heap.size, 0, none⟩ = some (.slice A l.length cp) := by simpa using (HK.out.below hU3.2).cell 0
  have HU3 := hid' (show USt w0 w3 (cfgL (l.take 0) t d) by rw [HF.out]; exact hU3)
  clear hU3 c1 c2 hsL
  go_wp2
  go_loopw [5, 16] (fun v5 v16 wr => ∃ k : Nat, k ≤ l.length ∧ v16 = .int .i64 k ∧ USt w0 wr (cfgL (l.take k) t d)) (fun _ v16 _ => l.length - (intOf v16).toNat)
  case atStart => exact ⟨0, Nat.zero_le _, rfl, HU3.out⟩
  case round =>
    obtain ⟨k, hk, rfl, hU⟩ := hrel
    have HU := hid' hU
    have hlen := HZ.out k
    rw [List.length_take] at hlen
    by_cases hlt : k < l.length
    · have hlti : (k : Int) < (l.length : Int) := by omega
      have hLr := bel_then HL0.out hU.2
      obtain ⟨ad, a, b, q, n, s, rfl, hx, c0, c1, c2, c3, c4⟩ := (HR.out.below hLr).at5 hlt
      have hri := HI.out _ (List.mem_of_getElem? hx)
      have hba := bel_alloc (bel_refl wr) (.cells #[.int .i64 a, .int .i64 b, .int .i64 q, .int .i64 n, .int .i64 s] 54)
      have HC := hid' (config_Rule a b q n s _ hri (HP.out.below (bel_then hLr hba)))
      have HUa := hid' (hU.below hba)
      have hrl : (ruleL a b q n s).length ≤ 60 := rlL_len hri
      have HNX := hid' (cfgL_take hx t d)
      unfold ruleV at HC
      clear hx hU hba hri hLr
      go_wp2_with fail
      refine HC.out.mono ?_
      rintro e' w4 ⟨rfl, hB4⟩
      have HU4 := hid' (HUa.out.below hB4)
      have HW4 := hid' (USt.str HU4.out (strOf (ruleL a b q n s)) (by show _ + (ruleL a b q n s).length ≤ _; omega))
      rw [bL_str, HS0.out] at HW4
      clear hB4
      go_wp2_with fail
      refine HW4.out.mono ?_
      rintro e' w5 ⟨⟨r5, rfl⟩, hU5⟩
      go_wp2
      go_roundw
      case rel => exact ⟨k + 1, by omega, by go_num, by rw [HNX.out]; exact hU5⟩
      case measure => (simp only [intOf]; omega)
    · obtain rfl : k = l.length := by omega
      rw [List.take_length] at HU
      clear hU
      go_wp2_with fail
      have HSG := USt.string HU.out
      rw [HS0.out] at HSG
      refine HSG.mono ?_
      rintro e' w4 ⟨rfl, hU4⟩
      go_wp2
      go_ret
      exact ⟨rfl, bel_then HL0.out hU4.2⟩
end Go.Proofs.YthdblloiapadkaaDoor
