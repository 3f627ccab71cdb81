/- The laws of layer 7 (ring), walked. No condition. -/
import Derived.Test.YtoajlogbdkinkaaRingIntC
import Derived.Test.YtoajlogbdkinkaaRingStrB
namespace Go.Proofs.Ytoajlogbdkinkaa
open Go.RowKit
set_option linter.unusedVariables false

theorem law07_speaks (w : World) : Calls Try.prog 27 #[] w fun e w' => e = .returned (.bool true) ∧ Below w.heap.size w w' := by
  go_enter Try.func27, Try.ntmps27
  go_wp2_with fail
  refine (ringInt_New 2 w (by omega)).mono ?_
  rintro e w1 ⟨g, b, rfl, hg, hb, hC, hB⟩
  go_wp2_with fail
  refine (ringInt_Push g b _ _ 1 w1 hC (by omega)).mono ?_
  rintro e w2 ⟨rfl, hC2, hM2⟩
  have hB2 := bel_mod hB hM2 (by intro i hi; omega)
  clear hB hM2
  simp only [show (max (2 : Int) 1).toNat = 2 from rfl, List.length_nil, List.nil_append, if_true, show (0 < 2) = True from by simp] at hC2
  go_wp2_with fail
  refine (ringInt_Push g b _ _ 2 w2 hC2 (by omega)).mono ?_
  rintro e w3 ⟨rfl, hC3, hM3⟩
  have hB3 := bel_mod hB2 hM3 (by intro i hi; omega)
  clear hB2 hM3 hC2
  simp only [List.length_cons, List.length_nil, Nat.zero_add, if_true, show (1 < 2) = True from by simp, List.cons_append, List.nil_append] at hC3
  go_wp2_with fail
  refine (ringInt_Push g b _ _ 3 w3 hC3 (by omega)).mono ?_
  rintro e w4 ⟨rfl, hC4, hM4⟩
  have hB4 := bel_mod hB3 hM4 (by intro i hi; omega)
  clear hB3 hM4 hC3
  simp only [List.length_cons, List.length_nil, Nat.zero_add, Nat.lt_irrefl, if_false, List.tail_cons, List.cons_append, List.nil_append, Nat.reduceAdd] at hC4
  go_wp2_with fail
  refine (ringInt_At g b _ 1 _ 3 w4 hC4 (by omega) rfl).mono ?_
  rintro e w5 ⟨rfl, m, rfl⟩
  go_wp2_with fail
  refine (ringInt_Len g b _ _ _ (hC4.drewN m)).mono ?_
  rintro e w6 ⟨rfl, rfl⟩
  go_wp2_with fail
  refine (ringInt_Room g b _ _ _ (hC4.drewN m)).mono ?_
  rintro e w6 ⟨rfl, rfl⟩
  go_wp2
  go_ret
  exact ⟨by simp, bel_drewN hB4 m⟩
theorem ringAt (A : Option Addr) (c : Nat) (l : List ByteArray) (room i : Int) (w : World) (hr : Rd w A (l.map .string)) (hl : ∀ x ∈ l, x.size ≤ maxLen) (hn : l.length ≤ maxLen) (hcap : l.length ≤ c) (hro : (Lit.int .u8 room).wf = true) (hi : (Lit.int .i64 i).wf = true) :
    Calls Try.prog 8 #[.slice A l.length c, .int .u8 room, .int .i64 i] w fun e w' => e = .returned (.bool true) ∧ Below w.heap.size w w' := by
  have hi' := I64.of_wf hi
  have hroom : 0 ≤ room ∧ room ≤ 255 := by simp [Lit.wf, IntKind.min, IntKind.max, IntKind.signed, IntKind.bits] at hro; omega
  have hn' : l.length ≤ 9223372036854775807 := hn
  have HR := hid' hr
  obtain ⟨r, rfl⟩ := Int.eq_ofNat_of_zero_le hroom.1
  have hr2 : r ≤ 255 := by omega
  clear hl hn hr hro hi hroom
  go_enter Try.func8, Try.ntmps8
  go_wp2_with fail
  refine (law07_speaks w).mono ?_
  rintro e w1 ⟨rfl, hB⟩
  by_cases h1 : 200 < l.length
  · go_wp2
    all_goals (go_ret; exact ⟨rfl, hB⟩)
  go_wp2_with fail
  obtain ⟨n, hN⟩ : ∃ n : Nat, (1 + (r : Int) % 20) = (n : Int) := ⟨1 + r % 20, by omega⟩
  have hn1 : 0 < n := by omega
  have hn2 : n ≤ 20 := by omega
  rw [hN]
  have HN := hid' hN
  clear hN
  refine (ringStr_New n w1 (by omega)).mono ?_
  rintro e w2 ⟨g, b, rfl, hg, hb, hC, hB2⟩
  rw [show (max (n : Int) 1).toNat = n by omega] at hC
  have HB := hid' (bel_then hB hB2)
  have hgw : w.heap.size ≤ g := by have := hB.size; omega
  have hbw : w.heap.size ≤ b := by have := hB.size; omega
  clear hB hB2
  go_wp2
  have HC := hid' hC
  clear hC
  go_loopw [27] (fun v27 wr => ∃ k : Nat, k ≤ l.length ∧ v27 = .int .i64 k ∧ Below w.heap.size w wr ∧ RingStr wr g b n (lastN n (l.take k))) (fun v27 _ => l.length - (intOf v27).toNat)
  case atStart => exact ⟨0, Nat.zero_le _, rfl, HB.out, by simpa [lastN] using HC.out⟩
  case round =>
    obtain ⟨k, hk, rfl, hbl, hC⟩ := hrel
    by_cases hlt : k < l.length
    · obtain ⟨ad, x, rfl, hx, hcx⟩ := Rd.at_ (HR.out.below hbl) hlt
      have HT := hid' ((lastN_push hn1 (l.take k) x).trans (congrArg (lastN n) (take_snoc' hx).symm))
      clear hx
      go_wp2_with fail
      refine (ringStr_Push g b n _ x wr hC (by omega)).mono ?_
      rintro e w3 ⟨rfl, hC3, hM3⟩
      rw [HT.out] at hC3
      have hbl3 := bel_mod hbl hM3 (by intro i hi; omega)
      clear hbl hM3 hC
      go_wp2
      go_roundw
      case rel => exact ⟨k + 1, by omega, by go_num, hbl3, hC3⟩
      case measure => simp [intOf]; omega
    · have hkl : l.take k = l := List.take_of_length_le (by omega)
      rw [hkl] at hC
      have hlen := lastN_len n l
      have hcut := cut_l (P := Try.prog) 37 9 1 Try.underlying37 (by kernel_rfl) A l.length c (l.length - n) (by omega)
      have hmx : max ((l.length : Int) - (n : Int)) 0 = ((l.length - n : Nat) : Int) := by omega
      have hl2 : l.length - (l.length - n) = (lastN n l).length := by omega
      have HRw := hid' ((HR.out.below hbl).cut (l.length - n) 1 c ((lastN n l).length) (by intro e; omega))
      rw [hl2] at hcut
      have HLN := hid' (fun j (hj : j < (lastN n l).length) => lastN_get (n := n) (xs := l) (j := j) (by omega))
      have hwr : IntKind.i64.wrap ((l.length : Int) - (n : Int)) = (l.length : Int) - (n : Int) := IntWalk.i64_in _ (by omega)
      clear hkl hl2
      generalize hL : (lastN n l).length = L at *
      have HL := hid' hL
      clear hL
      by_cases hin : 0 ≤ i ∧ i < L
      · obtain ⟨j, rfl⟩ := Int.eq_ofNat_of_zero_le hin.1
        have hj : j < L := by omega
        have hd1 : decide ((j : Int) < 0) = false := by rw [decide_eq_false_iff_not]; omega
        have hd2 : decide (L ≤ j) = false := by rw [decide_eq_false_iff_not]; omega
        obtain ⟨ad, x, hAx, hx, hcx⟩ := Rd.at_ (f := Value.string) (xs := lastN n l) (w := wr) (A := cutA A (l.length - n) 1 c) (j := j) (by have := HRw.out; rw [Nat.mul_one, ← List.map_drop, List.take_of_length_le (by rw [List.length_map]; have := HL.out; unfold lastN at this; omega)] at this; exact this) (by rw [HL.out]; exact hj)
        go_wp2_with fail
        refine (ringStr_At g b n j _ x wr hC (by omega) hx).mono ?_
        rintro e w3 ⟨rfl, m, rfl⟩
        go_wp2
        go_ret
        exact ⟨by simp, bel_drewN hbl m⟩
      · have hno : i < 0 ∨ ((lastN n l).length : Int) ≤ i := by rw [HL.out]; omega
        go_wp2_with fail
        refine (ringStr_At_no g b n _ i wr hC (by omega) hno).mono ?_
        rintro e w3 ⟨rfl, rfl⟩
        by_cases hi0 : i < 0
        · go_wp2_with fail
          refine (ringStr_Len g b n _ _ hC).mono ?_
          rintro e w3 ⟨rfl, rfl⟩
          rw [HL.out]
          go_wp2
          go_ret
          exact ⟨by simp, hbl⟩
        · have hi1 : decide ((L : Int) ≤ i) = true := by rw [decide_eq_true_eq]; omega
          have hi2 : decide (i < 0) = false := by rw [decide_eq_false_iff_not]; omega
          go_wp2_with fail
          refine (ringStr_Len g b n _ _ hC).mono ?_
          rintro e w3 ⟨rfl, rfl⟩
          rw [HL.out]
          go_wp2
          go_ret
          exact ⟨by simp, hbl⟩

set_option maxRecDepth 100000 in
theorem ringPushes (room : Int) (A : Option Addr) (c : Nat) (l : List Int) (w : World) (hro : (Lit.int .i64 room).wf = true) (hr : Rd w A (l.map (.int .i64))) (hl : ∀ x ∈ l, (Lit.int .i64 x).wf = true) (hn : l.length ≤ maxLen) (hcap : l.length ≤ c) :
    Calls Try.prog 11 #[.int .i64 room, .slice A l.length c] w fun e w' => e = .returned (.bool true) ∧ Below w.heap.size w w' := by
  have hroom := I64.of_wf hro
  have hn' : l.length ≤ 9223372036854775807 := hn
  have HR := hid' hr
  clear hl hn hr hro
  go_enter Try.func11, Try.ntmps11
  go_wp2_with fail
  refine (law07_speaks w).mono ?_
  rintro e w1 ⟨rfl, hB⟩
  by_cases h1 : 200 < l.length
  · go_wp2
    all_goals (go_ret; exact ⟨rfl, hB⟩)
  by_cases h2 : 1000 < room
  · go_wp2
    all_goals (go_ret; exact ⟨rfl, hB⟩)
  go_wp2_with fail
  refine (ringInt_New room w1 (by omega)).mono ?_
  rintro e w2 ⟨g, b, rfl, hg, hb, hC, hB2⟩
  obtain ⟨n, hN⟩ : ∃ n : Nat, max room 1 = (n : Int) := ⟨(max room 1).toNat, by omega⟩
  rw [show (max room 1).toNat = n by omega] at hC
  have hn1 : 0 < n := by omega
  have hn2 : n ≤ 1000 := by omega
  have HB := hid' (bel_then hB hB2)
  have hgw : w.heap.size ≤ g := by have := hB.size; omega
  have hbw : w.heap.size ≤ b := by have := hB.size; omega
  have HC := hid' hC
  clear hB hB2 hC
  go_wp2
  go_loopw [31] (fun v31 wr => ∃ k : Nat, k ≤ l.length ∧ v31 = .int .i64 k ∧ Below w.heap.size w wr ∧ RingInt wr g b n (lastN n (l.take k))) (fun v31 _ => l.length - (intOf v31).toNat)
  case atStart => exact ⟨0, Nat.zero_le _, rfl, HB.out, by simpa [lastN] using HC.out⟩
  case round =>
    obtain ⟨k, hk, rfl, hbl, hC⟩ := hrel
    by_cases hlt : k < l.length
    · obtain ⟨ad, x, rfl, hx, hcx⟩ := Rd.at_ (HR.out.below hbl) hlt
      have hlen := lastN_len n (l.take k)
      rw [List.length_take, Nat.min_eq_left hk] at hlen
      have HT := hid' ((lastN_push hn1 (l.take k) x).trans (congrArg (lastN n) (take_snoc' hx).symm))
      have hlen2 := lastN_len n (l.take (k + 1))
      rw [List.length_take, Nat.min_eq_left (show k + 1 ≤ l.length from hlt)] at hlen2
      clear hx
      go_wp2_with fail
      refine (ringInt_Push g b n _ x wr hC (by omega)).mono ?_
      rintro e w3 ⟨rfl, hC3, hM3⟩
      rw [HT.out] at hC3
      have hbl3 := bel_mod hbl hM3 (by intro i hi; omega)
      clear hbl hM3 hC
      have hcut := cut_lh (P := Try.prog) 26 3 1 Try.underlying26 (by kernel_rfl) (some ad) l.length c (k + 1 - n) (k + 1) (by omega) (by omega)
      rw [show ((k + 1 : Nat) : Int) = (k : Int) + 1 from by omega] at hcut
      have hmx : max ((k : Int) + 1 - (n : Int)) 0 = ((k + 1 - n : Nat) : Int) := by omega
      have HRw := hid' ((HR.out.below hbl3).cut (k + 1 - n) 1 c ((lastN n (l.take (k + 1))).length) (by intro e; omega))
      have hq : lastN n (l.take (k + 1)) = (l.drop (k + 1 - n)).take (lastN n (l.take (k + 1))).length := by
        rw [hlen2, lastN, List.length_take, Nat.min_eq_left (show k + 1 ≤ l.length from hlt), List.drop_take]; congr 1; omega
      have HQ := hid' hq
      have hRq : Rd w3 (cutA (some ad) (k + 1 - n) 1 c) ((lastN n (l.take (k + 1))).map (.int .i64)) := by
        have := HRw.out
        rw [Nat.mul_one, ← List.map_drop, ← List.map_take, ← HQ.out] at this
        exact this
      have HRq := hid' hRq
      rw [show k + 1 - (k + 1 - n) = (lastN n (l.take (k + 1))).length by omega] at hcut
      clear hq hRq HRw
      have hL9 : (lastN n (l.take (k + 1))).length ≤ 200 := by omega
      generalize hqq : lastN n (l.take (k + 1)) = q at *
      have HE := hid' hqq
      clear hqq HQ
      have HLq := hid' hlen2
      clear hlen2
      by_cases hkn : k < n
      case' pos =>
        have e1 : (if (lastN n (l.take k)).length < n then (0 : Int) else (lastN n (l.take k)).headD 0) = 0 := if_pos (by omega)
        have e2 : decide (n ≤ (lastN n (l.take k)).length) = false := by rw [decide_eq_false_iff_not]; omega
        have hd : decide (n ≤ k) = false := by rw [decide_eq_false_iff_not]; omega
        rw [e1, e2]
        clear e1 e2 hlen HT
      case' neg =>
        obtain ⟨y, hy⟩ : ∃ y, l[k - n]? = some y := ⟨_, List.getElem?_eq_getElem (by omega)⟩
        have hyc : w3.cell? (ad.add (k - n)) = some (.int .i64 y) := by
          obtain ⟨ad', y', e', hy', hc'⟩ := Rd.at_ (HR.out.below hbl3) (j := k - n) (by omega)
          cases e'
          rw [hy] at hy'; cases hy'; exact hc'
        have e1 : (if (lastN n (l.take k)).length < n then (0 : Int) else (lastN n (l.take k)).headD 0) = y := by
          rw [if_neg (by omega), List.headD_eq_head?_getD, List.head?_eq_getElem?, lastN_get (by simp; omega), List.length_take, Nat.min_eq_left hk, Nat.add_zero, List.getElem?_take, if_pos (by omega), hy]; rfl
        have e2 : decide (n ≤ (lastN n (l.take k)).length) = true := by rw [decide_eq_true_eq]; omega
        have hd : decide (n ≤ k) = true := by rw [decide_eq_true_eq]; omega
        rw [e1, e2]
        clear e1 e2 hlen HT hy
      all_goals
        go_wp2_with fail
        refine (ringInt_Len g b n q _ hC3).mono ?_
        rintro e w4 ⟨rfl, rfl⟩
        go_wp2_with fail
        refine (ringInt_Room g b n q _ hC3).mono ?_
        rintro e w4 ⟨rfl, rfl⟩
        go_wp2_with fail
        refine (ringInt_All g b n q _ hC3 (by omega)).mono ?_
        rintro e w4 ⟨v, rfl, hown, hB4⟩
        obtain ⟨A1, c1, rfl, _, hc1, hr1⟩ := own_rd hown
        have hC4 := hC3.below hB4
        have HQ4 := hid' (HRq.out.below hB4)
        have HB4 := hid' (bel_then hbl3 hB4)
        clear hown hC3 hB4 hbl3 hcut hmx HRq
        go_wp2_with fail
        refine (ref_Same' A1 _ c1 _ q.length q.length q q _ hr1 HQ4.out rfl rfl (by omega) (by omega)).mono ?_
        rintro e w5 ⟨rfl, m, rfl⟩
        rw [show decide (q = q) = true from decide_eq_true rfl]
        clear hr1
        generalize cutA (some ad) (k + 1 - n) 1 c = A2 at *
        go_wp2
        go_loopw [97] (fun v97 wr5 => ∃ j m2 : Nat, j ≤ q.length ∧ v97 = .int .i64 j ∧ w4.drewN m2 = wr5) (fun v97 _ => q.length - (intOf v97).toNat)
        case atStart => exact ⟨0, m, Nat.zero_le _, rfl, rfl⟩
        case round =>
          obtain ⟨j, m2, hj, rfl, rfl⟩ := hrel
          by_cases hjl : j < q.length
          · obtain ⟨ad2, y2, rfl, hy2, hc2⟩ := Rd.at_ HQ4.out hjl
            have HY := hid' hy2
            clear hy2
            go_wp2_with fail
            refine (ringInt_At g b n j q y2 _ (hC4.drewN m2) (by omega) HY.out).mono ?_
            rintro e w6 ⟨rfl, m3, rfl⟩
            go_wp2
            go_roundw
            case rel => exact ⟨j + 1, _, by omega, by go_num, rfl⟩
            case measure => simp [intOf]; omega
          · have hC5 := hC4.drewN m2
            have HB5 := bel_drewN HB4.out m2
            go_wp2
            go_roundw
            case rel => exact ⟨k + 1, by omega, by go_num, HB5, by rw [HE.out]; exact hC5⟩
            case measure => simp [intOf]; omega
    · go_wp2
      go_ret
      exact ⟨rfl, hbl⟩
end Go.Proofs.Ytoajlogbdkinkaa
