
/- A text in marks as the document says (tidewaiterref04.Quote), walked. No condition. -/
import Derived.Test.YtioaijjmialdoaaDoorQuoteRef
namespace Go.Proofs.YtioaijjmialdoaaDoor
set_option maxRecDepth 100000
set_option linter.unusedSimpArgs false
open Go.RowKit
set_option linter.unusedVariables false
set_option linter.unusedSimpArgs false

def qPre (s : ByteArray) (j : Nat) : ByteArray := strOf ([34] ++ qMid ((signs s).take j))
theorem qPre_next {s : ByteArray} {j : Nat} {n : Int} (h : (signs s)[j]? = some n) : qPre s (j + 1) = qPre s j ++ strOf (qOne n) := by
  unfold qPre
  rw [take_snoc' h, qMid_snoc, strOf_app, List.append_assoc]
theorem qPre_size (s : ByteArray) (j : Nat) : (qPre s j).size ≤ 12 * s.size + 1 := by
  have h1 := qMid_len (l := (signs s).take j) (fun n hn => sSt_mem s s.size n (List.mem_of_mem_take hn))
  have h2 := signs_len s
  have h3 : ((signs s).take j).length ≤ (signs s).length := by rw [List.length_take]; exact Nat.min_le_right _ _
  show ([34] ++ qMid _).length ≤ _
  rw [List.length_append, List.length_singleton]
  omega
theorem qPre_end (s : ByteArray) : qPre s (signs s).length ++ ⟨#[34]⟩ = strOf (quoteP s) := by
  unfold qPre quoteP
  rw [List.take_of_length_le (Nat.le_refl _)]
  exact strOf_app _ [34]
set_option maxHeartbeats 8000000 in
theorem ref04_Quote (s : ByteArray) (w : World) (hs : s.size ≤ 200000) :
    Calls Tryd.prog 23 #[.string s] w fun e w' => e = .returned (.string (strOf (quoteP s))) ∧ Below w.heap.size w w' := by
  have hlm := signs_len s
  have hend := qPre_end s
  have hps := qPre_size s
  obtain ⟨out, hout⟩ : ∃ out, out = strOf (quoteP s) := ⟨_, rfl⟩
  rw [← hout] at hend ⊢
  clear hout
  go_enter Tryd.func23, Tryd.ntmps23
  go_wp2_with fail
  refine (ref04_Signs s _ hs).mono ?_
  rintro e w1 ⟨v, rfl, hO, hB1⟩
  obtain ⟨A, c, rfl, -, -, hr⟩ := own_rd hO
  obtain ⟨m, hm⟩ : ∃ m, m = (signs s).length := ⟨_, rfl⟩
  rw [← hm] at hlm hend ⊢
  have HM := hid' hm
  have HR := hid' hr
  have HB1 := hid' hB1
  have HEND := hid' hend
  have HPS := hid' hps
  clear hO hr hm hB1 hend hps
  go_wp2
  go_loopw [3, 5] (fun v3 v5 wr => ∃ j : Nat, j ≤ m ∧ v3 = .string (qPre s j) ∧ v5 = .int .i64 j ∧ Below w1.heap.size w1 wr) (fun _ v5 _ => m - (intOf v5).toNat)
  case atStart => exact ⟨0, Nat.zero_le _, rfl, rfl, bel_refl _⟩
  case round =>
    obtain ⟨j, hj, rfl, rfl, hL⟩ := hrel
    have HL := hid' hL
    have hts := HPS.out j
    by_cases hlt : j < m
    · obtain ⟨n, hx⟩ : ∃ n, (signs s)[j]? = some n := ⟨_, List.getElem?_eq_getElem (by rw [← HM.out]; exact hlt)⟩
      obtain ⟨ad, rfl, hc⟩ := (HR.out.below hL) j (.int .i64 n) (by rw [List.getElem?_map, hx]; rfl)
      have hacc := qPre_next hx
      have hbd := sSt_mem s s.size n (List.mem_of_getElem? hx)
      obtain ⟨t, ht⟩ : ∃ t, t = qPre s j := ⟨_, rfl⟩
      rw [← ht] at hts hacc ⊢
      clear hx ht hL
      by_cases h0 : n < 0
      · obtain ⟨g, hg⟩ : ∃ g : Nat, -n - 1 = (g : Int) := ⟨(-n - 1).toNat, by omega⟩
        have hg256 : g < 256 := by omega
        have hone : qOne n = [92, 120] ++ hexL g := by
          unfold qOne
          rw [if_pos h0]
          congr 2
          omega
        rw [hone, ← strOf_app] at hacc
        have hxl := hexL_len 1 g (by omega)
        have hxs : (strOf (hexL g)).size = (hexL g).length := rfl
        have hfin : (qPre s (j + 1)) = t ++ ⟨#[92, 120]⟩ ++ strOf (hexL g) := by
          rw [hacc]
          apply ByteArray.ext; simp [ByteArray.data_append]; rfl
        have HACC := hid' hfin
        have hwg : wrap64 (g : Int) = (g : Int) := by unfold wrap64; omega
        have HX := hid' (fun W => ref04_hex g W (by omega))
        have hsz1 : t.size + 2 ≤ 9223372036854775807 := by omega
        have hsz2 : (t ++ ⟨#[92, 120]⟩).size + (strOf (hexL g)).size ≤ 9223372036854775807 := by rw [ByteArray.size_append]; show t.size + 2 + _ ≤ _; omega
        clear hone hacc hxl hxs hfin
        go_wp2_with fail
        refine (HX.out _).mono ?_
        rintro e w3 ⟨rfl, hB3⟩
        have HL3 := hid' (bel_then HL.out hB3)
        clear hB3
        go_wp2
        go_roundw
        case rel => exact ⟨j + 1, by omega, by rw [HACC.out], by go_num, HL3.out⟩
        case measure => simp [intOf]; omega
      · obtain ⟨q, rfl⟩ : ∃ q : Nat, n = (q : Int) := ⟨n.toNat, by omega⟩
        have hq1 : q ≤ 1114111 := by omega
        have hd0 : decide ((q : Int) < 0) = false := by rw [decide_eq_false_iff_not]; omega
        by_cases h34 : q = 34 ∨ q = 92
        · have hone : qOne (q : Int) = [92] ++ [UInt8.ofNat q] := by
            unfold qOne
            rw [if_neg (by omega), if_pos (by omega)]
            simp
          rw [hone, ← strOf_app] at hacc
          have hfin : (qPre s (j + 1)) = t ++ ⟨#[92]⟩ ++ strOf [UInt8.ofNat q] := by
            rw [hacc]
            apply ByteArray.ext; simp [ByteArray.data_append]; rfl
          have HACC := hid' hfin
          have hq128 : q < 256 := by omega
          have hconv := convQ_one wr q hq128
          have HL3 := hid' (bel_then HL.out (bel_alloc (bel_refl wr) (.cells #[.int .u8 (q : Int)] 5)))
          have hsz1 : t.size + 1 ≤ 9223372036854775807 := by omega
          have hsz2 : (t ++ ⟨#[92]⟩).size + (strOf [UInt8.ofNat q]).size ≤ 9223372036854775807 := by rw [ByteArray.size_append]; show t.size + 1 + 1 ≤ _; omega
          have hcc : ((q : Int) == 34) = true ∨ (((q : Int) == 34) = false ∧ ((q : Int) == 92) = true) := by
            rcases h34 with h | h
            · left; rw [beq_iff_eq]; omega
            · right; rw [beq_iff_eq, beq_eq_false_iff_ne]; omega
          clear hone hacc hfin h34
          generalize strOf [UInt8.ofNat q] = x at *
          rcases hcc with e1 | ⟨e1, e2⟩
          all_goals
            go_wp2
            go_roundw
            case rel => exact ⟨j + 1, by omega, by rw [HACC.out], by go_num, HL3.out⟩
            case measure => simp [intOf]; omega
        · have e34 : ((q : Int) == 34) = false := by rw [beq_eq_false_iff_ne]; omega
          have e92 : ((q : Int) == 92) = false := by rw [beq_eq_false_iff_ne]; omega
          by_cases hes : q < 32 ∨ 126 < q
          · have hone : qOne (q : Int) = [92, 117, 123] ++ hexL q ++ [125] := by
              unfold qOne
              rw [if_neg (by omega), if_neg (by omega), if_pos (by omega)]
              simp
            rw [hone, ← strOf_app, ← strOf_app] at hacc
            have hxl := hexL_len 5 q (by omega)
            have hxs : (strOf (hexL q)).size = (hexL q).length := rfl
            have hfin : (qPre s (j + 1)) = t ++ ⟨#[92, 117, 123]⟩ ++ strOf (hexL q) ++ ⟨#[125]⟩ := by
              rw [hacc]
              apply ByteArray.ext; simp [ByteArray.data_append]; rfl
            have HACC := hid' hfin
            have hwg : wrap64 (q : Int) = (q : Int) := by unfold wrap64; omega
            have HX := hid' (fun W => ref04_hex q W (by omega))
            generalize strOf (hexL q) = x at *
            have hsz4 : t.size + 3 + x.size + 1 ≤ 9223372036854775807 := by omega
            have hsz1 : t.size + 3 ≤ 9223372036854775807 := by omega
            have hsz2 : (t ++ ⟨#[92, 117, 123]⟩).size + x.size ≤ 9223372036854775807 := by rw [ByteArray.size_append]; show t.size + 3 + _ ≤ _; omega
            have hsz3 : (t ++ ⟨#[92, 117, 123]⟩ ++ x).size + 1 ≤ 9223372036854775807 := by rw [ByteArray.size_append, ByteArray.size_append]; show t.size + 3 + _ + 1 ≤ _; omega
            have hcc : decide ((q : Int) < 32) = true ∨ (decide ((q : Int) < 32) = false ∧ decide ((126 : Int) < (q : Int)) = true) := by
              rcases hes with h | h
              · left; rw [decide_eq_true_iff]; omega
              · by_cases h2 : q < 32
                · left; rw [decide_eq_true_iff]; omega
                · right; rw [decide_eq_true_iff, decide_eq_false_iff_not]; omega
            clear hone hacc hxl hxs hfin h34 hes
            rcases hcc with e1 | ⟨e1, e2⟩
            all_goals
              go_wp2_with fail
              refine (HX.out _).mono ?_
              rintro e w3 ⟨rfl, hB3⟩
              have HL3 := hid' (bel_then HL.out hB3)
              clear hB3
              go_wp2
              go_roundw
              case rel => exact ⟨j + 1, by omega, by rw [HACC.out], by go_num, HL3.out⟩
              case measure => simp [intOf]; omega
          · have hone : qOne (q : Int) = [UInt8.ofNat q] := by
              unfold qOne
              rw [if_neg (by omega), if_neg (by omega), if_neg (by omega)]
              simp
            rw [hone] at hacc
            have HACC := hid' hacc
            have hq128 : q < 256 := by omega
            have hconv := convQ_one wr q hq128
            have HL3 := hid' (bel_then HL.out (bel_alloc (bel_refl wr) (.cells #[.int .u8 (q : Int)] 5)))
            have hsz1 : t.size + (strOf [UInt8.ofNat q]).size ≤ 9223372036854775807 := by show t.size + 1 ≤ _; omega
            have e32 : decide ((q : Int) < 32) = false := by rw [decide_eq_false_iff_not]; omega
            have e126 : decide ((126 : Int) < (q : Int)) = false := by rw [decide_eq_false_iff_not]; omega
            clear hone hacc hes h34
            generalize strOf [UInt8.ofNat q] = x at *
            go_wp2
            go_roundw
            case rel => exact ⟨j + 1, by omega, by rw [HACC.out], by go_num, HL3.out⟩
            case measure => simp [intOf]; omega
    · have he : j = m := by omega
      subst he
      have hen := HEND.out
      obtain ⟨t, ht⟩ : ∃ t, t = qPre s j := ⟨_, rfl⟩
      rw [← ht] at hts hen ⊢
      have HEN := hid' hen
      have HL3 := hid' (bel_then HB1.out hL)
      have hsz1 : t.size + 1 ≤ 9223372036854775807 := by omega
      clear ht hL hen
      go_wp2
      go_ret
      refine ⟨?_, HL3.out⟩
      rw [← HEN.out]
      go_simp
end Go.Proofs.YtioaijjmialdoaaDoor
