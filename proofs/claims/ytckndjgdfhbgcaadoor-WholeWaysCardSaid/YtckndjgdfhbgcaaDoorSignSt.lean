
/- The signs of a text: the reference's row of them, and whether it has one, walked. No condition. -/
import Derived.Test.YtckndjgdfhbgcaaDoorSignRef
namespace Go.Proofs.YtckndjgdfhbgcaaDoor
set_option maxRecDepth 100000
set_option linter.unusedSimpArgs false
open Go.RowKit
set_option linter.unusedVariables false
set_option linter.unusedSimpArgs false

theorem sSt_bd (s : ByteArray) : ∀ k, (sSt s k).2 ≤ s.size + 4 := by
  intro k
  induction k with
  | zero => exact Nat.zero_le _
  | succ k ih =>
    show (sStep s (sSt s k)).2 ≤ _
    unfold sStep
    split
    · have := sgW_pos s (sSt s k).2
      show (sSt s k).2 + _ ≤ _
      omega
    · exact ih
theorem sSt_next {s : ByteArray} {k : Nat} (h : (sSt s k).2 < s.size) : sSt s (k + 1) = ((sSt s k).1 ++ [sgN s (sSt s k).2], (sSt s k).2 + sgW s (sSt s k).2) := by
  show sStep s (sSt s k) = _
  unfold sStep; rw [if_pos h]
def iV (n : Int) : Value := .int .i64 n
theorem intCells (l : List Int) (u : Value) (hu : u ∈ l.map iV) : u.oneCell' = true := by
  obtain ⟨y, _, rfl⟩ := List.mem_map.1 hu; rfl
set_option maxHeartbeats 4000000 in
theorem ref04_Signs (s : ByteArray) (w : World) (hs : s.size ≤ 200000) :
    Calls Tryd.prog 19 #[.string s] w fun e w' => ∃ v, e = .returned v ∧ w'.ownsRow w.heap.size 3 1 v (signs s).length ((signs s).map iV) ∧ Below w.heap.size w w' := by
  have hs' : s.size ≤ 9223372036854775807 := by omega
  have HL0 := hid' (bel_alloc (bel_refl w) (.cells #[] 3))
  have HO0 := hid' (World.ownsRow_lit (e := 3) (base := w.heap.size) (size := 1) w #[] 0 (Nat.le_refl _) (by unfold maxLen; omega) (by simp))
  go_enter Tryd.func19, Tryd.ntmps19
  go_wp2
  go_loopw [3, 4] (fun v3 v4 wr => ∃ k : Nat, v4 = .int .i64 ((sSt s k).2 : Int) ∧ (sSt s k).1.length = k ∧ wr.ownsRow w.heap.size 3 1 v3 k ((sSt s k).1.map iV) ∧ Below w.heap.size w wr) (fun _ v4 _ => s.size - (intOf v4).toNat)
  case atStart => exact ⟨0, rfl, rfl, HO0.out, HL0.out⟩
  case round =>
    obtain ⟨k, rfl, hlen, hO, hL⟩ := hrel
    have hbd := sSt_bd s k
    have hkk := (sSt_le s k).1
    obtain ⟨p, hp⟩ : ∃ p, p = (sSt s k).2 := ⟨_, rfl⟩
    have HO := hid' hO
    have HL := hid' hL
    have HLEN := hid' hlen
    have HP := hid' hp
    rw [← hp] at hbd hkk ⊢
    rw [hlen] at hkk
    have hws := hL.size
    clear hO hL hlen
    by_cases hlt : p < s.size
    · have hnx := sSt_next (s := s) (k := k) (by rw [← hp]; exact hlt)
      rw [← hp] at hnx
      have HNX := hid' hnx
      have hfr := firstR_tail hlt
      have hext : (s.extract p s.size).size ≤ maxLen := by rw [ByteArray.size_extract]; unfold maxLen; omega
      have hex0 : 0 < (s.extract p s.size).size := by rw [ByteArray.size_extract]; omega
      have HF := hid' (fun W => ref04_First (s.extract p s.size) W hext hex0)
      have hpi : (p : Int) ≤ (s.size : Int) := by omega
      have hlti : (p : Int) < (s.size : Int) := by omega
      have h8 : (k + 1) * 8 ≤ 140737488355328 := by omega
      have hbase : w.heap.size ≤ wr.heap.size := hws
      clear hp hext hex0 hnx
      by_cases hst : strayAt s p = true
      · have hw1 := stray_w hst
        have hn1 : sgN s p = -(gb s p : Int) - 1 := by unfold sgN; rw [if_pos hst]
        rw [hfr, if_pos hst] at HF
        have hg := gb_eq s p hlt
        have hgl := gb_lt s p
        have hgs : (s[p]'hlt).toNat = gb s p := hg.symm
        obtain ⟨g, hgg⟩ : ∃ g, g = gb s p := ⟨_, rfl⟩
        rw [← hgg] at hgs hgl hn1
        rw [hw1] at HNX
        rw [hn1] at HNX
        have hone := hid' (show ∀ u ∈ [(.int .i64 (-(g : Int) - 1) : Value)], u.oneCell' = true by intro u hu; rw [List.mem_singleton] at hu; subst hu; rfl)
        clear hw1 hn1 hg hgg hfr hst
        go_wp2_with fail
        refine (HF.out _).mono ?_
        rintro e w' ⟨rfl, rfl⟩
        go_wp2_with (at_builtin; (refine ap_cells w.heap.size rfl (.tmp 27) (.tmp 29) 33 3 (.int .i64 0) 1 8 rfl (by kernel_rfl) (by kernel_rfl) rfl (by decide) (by decide) _ k ((sSt s k).1.map iV) [.int .i64 (-(g : Int) - 1)] rfl (by rfl) rfl hone.out HO.out hbase h8 ?_); intro v1 w3 hown hg hat)
        go_roundw
        case rel => exact ⟨k + 1, by rw [HNX.out] <;> first | rfl | go_num, by rw [HNX.out]; simp [HLEN.out], by rw [HNX.out, List.map_append]; exact hown, bel_mod HL.out (Mod.of_grown hg) (fun j hj h => by have := own_base' HO.out j h; omega)⟩
        case measure => first | (simp [intOf]; done) | (simp [intOf]; omega)
      · rw [hfr, if_neg hst] at HF
        have hsw := sgW_pos s p
        have hn1 : sgN s p = ((Utf8.decode s p).1 : Int) := by unfold sgN; rw [if_neg hst]
        have hdl := dec_lt s p
        have hw1 : sgW s p = (Utf8.decode s p).2 := rfl
        rw [hn1] at HNX
        rw [hw1] at HNX hsw
        obtain ⟨d, hd⟩ : ∃ d, d = (Utf8.decode s p).1 := ⟨_, rfl⟩
        obtain ⟨q, hq⟩ : ∃ q, q = (Utf8.decode s p).2 := ⟨_, rfl⟩
        rw [← hd] at hdl
        rw [← hq] at hsw
        rw [← hd, ← hq] at HF HNX
        have hq0 : ((q : Int) == 0) = false := by rw [beq_eq_false_iff_ne]; omega
        have hone := hid' (show ∀ u ∈ [(.int .i64 (d : Int) : Value)], u.oneCell' = true by intro u hu; rw [List.mem_singleton] at hu; subst hu; rfl)
        clear hw1 hn1 hfr hst hd hq
        go_wp2_with fail
        refine (HF.out _).mono ?_
        rintro e w' ⟨rfl, rfl⟩
        go_wp2_with (at_builtin; (refine ap_cells w.heap.size rfl (.tmp 27) (.tmp 29) 33 3 (.int .i64 0) 1 8 rfl (by kernel_rfl) (by kernel_rfl) rfl (by decide) (by decide) _ k ((sSt s k).1.map iV) [.int .i64 (d : Int)] rfl (by rfl) rfl hone.out HO.out hbase h8 ?_); intro v1 w3 hown hg hat)
        go_roundw
        case rel => exact ⟨k + 1, by rw [HNX.out] <;> first | rfl | go_num, by rw [HNX.out]; simp [HLEN.out], by rw [HNX.out, List.map_append]; exact hown, bel_mod HL.out (Mod.of_grown hg) (fun j hj h => by have := own_base' HO.out j h; omega)⟩
        case measure => first | (simp [intOf]; done) | (simp [intOf]; omega)
    · have he := sSt_end (s := s) (k := k) (by rw [← hp]; exact hlt)
      have hO := HO.out
      have hk2 : (signs s).length = k := by rw [← he]; exact HLEN.out
      rw [he] at hO
      rw [← hk2] at hO
      have HO2 := hid' hO
      clear he hO hk2
      go_wp2
      go_ret
      exact ⟨_, rfl, HO2.out, HL.out⟩
theorem hasB_yes {s : ByteArray} {n : Int} (h : n ∈ signs s) (h0 : 0 ≤ n) : hasB s n = true := by unfold hasB; rw [decide_eq_true_iff]; exact ⟨h, h0⟩
set_option maxHeartbeats 4000000 in
theorem ref04_Has (s : ByteArray) (n : Int) (w : World) (hs : s.size ≤ 200000) :
    Calls Tryd.prog 8 #[.string s, .int .i64 n] w fun e w' => e = .returned (.bool (hasB s n)) ∧ Below w.heap.size w w' := by
  have hlm := signs_len s
  obtain ⟨b, hb⟩ : ∃ b, b = hasB s n := ⟨_, rfl⟩
  rw [← hb]
  have HB := hid' hb
  clear hb
  go_enter Tryd.func8, Tryd.ntmps8
  go_wp2_with fail
  refine (ref04_Signs s _ hs).mono ?_
  rintro e w1 ⟨v, rfl, hO, hB1⟩
  obtain ⟨A, c, rfl, -, -, hr⟩ := own_rd hO
  obtain ⟨m, hm⟩ : ∃ m, m = (signs s).length := ⟨_, rfl⟩
  rw [← hm] at hlm ⊢
  have HM := hid' hm
  have HR := hid' hr
  have HB1 := hid' hB1
  clear hO hr hm hB1
  go_wp2
  go_loop [6] (fun v6 => ∃ j : Nat, j ≤ m ∧ v6 = .int .i64 j ∧ (0 ≤ n → n ∉ (signs s).take j)) (fun v6 => m - (intOf v6).toNat)
  case atStart => exact ⟨0, Nat.zero_le _, rfl, fun _ h => by simp at h⟩
  case round =>
    obtain ⟨j, hj, rfl, hno⟩ := hrel
    have HNO := hid' hno
    clear hno
    by_cases hlt : j < m
    · obtain ⟨x, hx⟩ : ∃ x, (signs s)[j]? = some x := ⟨_, List.getElem?_eq_getElem (by rw [← HM.out]; exact hlt)⟩
      obtain ⟨ad, rfl, hc⟩ := HR.out j (.int .i64 x) (by rw [List.getElem?_map, hx]; rfl)
      have HX := hid' hx
      clear hx
      by_cases he : x = n
      · subst he
        by_cases h0 : 0 ≤ x
        · have hbt : b = true := HB.out.trans (hasB_yes (List.mem_of_getElem? HX.out) h0)
          subst hbt
          go_wp2
          go_ret
          exact ⟨rfl, HB1.out⟩
        · have hd : decide (0 ≤ x) = false := by rw [decide_eq_false_iff_not]; exact h0
          go_wp2
          go_round
          case rel => exact ⟨j + 1, by omega, by go_num, fun h => absurd h h0⟩
          case measure => simp [intOf]; omega
      · have hne : (x == n) = false := by simpa using he
        have HNE := hid' he
        clear he
        go_wp2
        go_round
        case rel => exact ⟨j + 1, by omega, by go_num, fun h hmem => by
          rw [take_snoc' HX.out] at hmem
          rcases List.mem_append.1 hmem with hm | hm
          · exact HNO.out h hm
          · rw [List.mem_singleton] at hm; exact HNE.out hm.symm⟩
        case measure => simp [intOf]; omega
    · have hbf : b = false := by
        rw [HB.out]
        unfold hasB
        rw [decide_eq_false_iff_not]
        rintro ⟨h1, h2⟩
        have := HNO.out h2
        rw [List.take_of_length_le (by rw [← HM.out]; omega)] at this
        exact this h1
      subst hbf
      go_wp2
      go_ret
      exact ⟨rfl, HB1.out⟩
end Go.Proofs.YtckndjgdfhbgcaaDoor
