
/- The reference's signs of a text, walked. No condition. -/
import Derived.Test.YtckndjgdfhbgcaaDoorProg
import Derived.Test.YtckndjgdfhbgcaaDoorSignPure
import Derived.Test.YtckndjgdfhbgcaaDoorOwn
namespace Go.Proofs.YtckndjgdfhbgcaaDoor
set_option maxRecDepth 100000
set_option linter.unusedSimpArgs false
open Go.RowKit
set_option linter.unusedVariables false
set_option linter.unusedSimpArgs false

theorem moreR_pos {s : ByteArray} {i : Nat} (h : cont s i) : moreR s i = ((gb s i - 128 : Nat) : Int) := by unfold moreR; rw [if_pos h]; have := h.2; omega
theorem moreR_neg {s : ByteArray} {i : Nat} (h : ¬ cont s i) : moreR s i = -1 := by unfold moreR; rw [if_neg h]
theorem ref04_more (s : ByteArray) (i : Nat) (w : World) (hs : s.size ≤ maxLen) (hi : i ≤ 100) :
    Calls Tryd.prog 37 #[.string s, .int .i64 (i : Int)] w fun e w' => e = .returned (.int .i64 (moreR s i)) ∧ w = w' := by
  have hs' : s.size ≤ 9223372036854775807 := hs
  clear hs
  by_cases hlt : i < s.size
  · have hg := gb_eq s i hlt
    have hb := gb_lt s i
    have hgs : (s[i]'hlt).toNat = gb s i := hg.symm
    by_cases h1 : gb s i < 128
    · have hm := moreR_neg (s := s) (i := i) (fun h => by have := h.2; omega)
      rw [hm]
      clear hm hg
      generalize gb s i = g at *
      go_enter Tryd.func37, Tryd.ntmps37
      go_wp2
      go_ret
      exact ⟨rfl, rfl⟩
    · by_cases h2 : gb s i < 192
      · have hm := moreR_pos (s := s) (i := i) ⟨hlt, by omega, h2⟩
        rw [hm]
        clear hm hg
        generalize gb s i = g at *
        go_enter Tryd.func37, Tryd.ntmps37
        go_wp2
        go_ret
        exact ⟨ret_int (by omega), rfl⟩
      · have hm := moreR_neg (s := s) (i := i) (fun h => by have := h.2; omega)
        rw [hm]
        clear hm hg
        generalize gb s i = g at *
        go_enter Tryd.func37, Tryd.ntmps37
        go_wp2
        go_ret
        exact ⟨rfl, rfl⟩
  · have hm := moreR_neg (s := s) (i := i) (fun h => hlt h.1)
    rw [hm]
    clear hm
    go_enter Tryd.func37, Tryd.ntmps37
    go_wp2
    go_ret
    exact ⟨rfl, rfl⟩
theorem fa_le (s : ByteArray) (n0 : Nat) : ∀ k, k ≤ 3 → n0 < 32 → (∀ j, j < k → cont s (j + 1)) → fa s n0 k < 32 * 64 ^ k := by
  intro k
  induction k with
  | zero => intro _ h _; simpa [fa] using h
  | succ k ih =>
    intro hk h hc
    have h1 := ih (by omega) h (fun j hj => hc j (by omega))
    have h2 := hc k (by omega)
    have h3 := h2.2
    simp only [fa]
    rw [Nat.pow_succ]
    omega
theorem fin_bad {s : ByteArray} {m n0 least k : Nat} (hk : k < m) (h : ¬ cont s (k + 1)) : fin s m n0 least = (0, 0) := by
  unfold fin; rw [if_neg (fun hh => h (hh k hk))]
theorem fin_badN {s : ByteArray} {m n0 least : Nat} (h : ∀ j, j < m → cont s (j + 1)) (hb : badN (fa s n0 m) least) : fin s m n0 least = (0, 0) := by
  unfold fin; rw [if_pos h, if_pos hb]
theorem fin_good {s : ByteArray} {m n0 least : Nat} (h : ∀ j, j < m → cont s (j + 1)) (hb : ¬ badN (fa s n0 m) least) : fin s m n0 least = (fa s n0 m, m + 1) := by
  unfold fin; rw [if_pos h, if_neg hb]
set_option maxHeartbeats 8000000 in
theorem ref04_First (s : ByteArray) (w : World) (hs : s.size ≤ maxLen) (h0 : 0 < s.size) :
    Calls Tryd.prog 30 #[.string s] w fun e w' => e = .returned (.tuple #[.int .i64 ((firstR s).1 : Int), .int .i64 ((firstR s).2 : Int)]) ∧ w = w' := by
  have hs' : s.size ≤ 9223372036854775807 := hs
  have hg := gb_eq s 0 h0
  have hb := gb_lt s 0
  have hgs : (s[0]'h0).toNat = gb s 0 := hg.symm
  obtain ⟨g, hgg⟩ : ∃ g, g = gb s 0 := ⟨_, rfl⟩
  by_cases h1 : gb s 0 < 128
  · have hf : firstR s = (gb s 0, 1) := by unfold firstR; rw [if_pos h1]
    rw [← hgg] at hgs hb h1 hf
    rw [hf]
    clear hf hg hgg
    go_enter Tryd.func30, Tryd.ntmps30
    go_wp2
    go_ret2
    exact ⟨rfl, rfl⟩
  by_cases h2 : 192 ≤ gb s 0 ∧ gb s 0 < 224
  · have hf : firstR s = fin s 1 (gb s 0 - 192) 128 := by unfold firstR; rw [if_neg h1, if_pos h2]
    rw [← hgg] at hgs hb h1 h2 hf
    obtain ⟨h2a, h2b⟩ := h2
    clear hg hgg
    have d1 : decide ((g : Int) < 224) = true := by rw [decide_eq_true_iff]; omega
    have HF := hid' hf
    clear hf
    go_enter Tryd.func30, Tryd.ntmps30
    go_wp2
    obtain ⟨n0, hn0⟩ : ∃ n0, n0 = (g - 192) := ⟨_, rfl⟩
    have hn0i : (n0 : Int) = (g : Int) - ((g - n0 : Nat) : Int) := by omega
    rw [← hn0] at HF
    have hn32 : n0 < 32 := by omega
    go_loop [6, 8] (fun v6 v8 => ∃ k : Nat, k ≤ 1 ∧ v8 = .int .i64 ((k + 1 : Nat) : Int) ∧ v6 = .int .i64 (fa s n0 k : Int) ∧ ∀ j, j < k → cont s (j + 1)) (fun _ v8 => 1 + 1 - (intOf v8).toNat)
    case atStart => exact ⟨0, Nat.zero_le _, rfl, by show Value.int .i64 _ = Value.int .i64 (n0 : Int); congr 1; omega, fun j hj => by omega⟩
    case round =>
      obtain ⟨k, hk, rfl, rfl, hc⟩ := hrel
      have HCC := hid' hc
      have hfa := fa_le s n0 k (by omega) hn32 hc
      by_cases hlt : k < 1
      · have hfb : fa s n0 k < 131072 := by
          rcases (show k = 0 ∨ k = 1 ∨ k = 2 by omega) with h | h | h <;> subst h <;> simp at hfa <;> omega
        have HM := hid' (fun W => ref04_more s (k + 1) W hs (by omega))
        by_cases h1 : cont s (k + 1)
        · have hstep : fa s n0 (k + 1) = fa s n0 k * 64 + (gb s (k + 1) - 128) := rfl
          rw [moreR_pos h1] at HM
          have hgl := gb_lt s (k + 1)
          have hg128 := h1.2.1
          obtain ⟨d, hd⟩ : ∃ d, d = gb s (k + 1) - 128 := ⟨_, rfl⟩
          obtain ⟨a, ha⟩ : ∃ a, a = fa s n0 k := ⟨_, rfl⟩
          rw [← hd] at HM hstep
          rw [← ha] at hstep hfb ⊢
          have hd128 : d < 128 := by omega
          have HST := hid' hstep
          have HC1 := hid' h1
          clear hstep h1 hc hfa ha hd hg128 hgl
          go_wp2_with (go_at_call 37; refine (HM.out _).mono ?_; rintro e w' ⟨rfl, rfl⟩)
          go_round
          case rel =>
            exact ⟨k + 1, by omega, by go_num, by rw [HST.out]; go_num, fun j hj => by
              by_cases hjk : j < k
              · exact HCC.out j hjk
              · obtain rfl : j = k := by omega
                exact HC1.out⟩
          case measure => simp [intOf]; omega
        · rw [moreR_neg h1] at HM
          have hfz := fin_bad (n0 := n0) (least := 128) hlt h1
          have HZ := hid' hfz
          clear hfz h1 hc hfa
          go_wp2_with (go_at_call 37; refine (HM.out _).mono ?_; rintro e w' ⟨rfl, rfl⟩)
          go_ret2
          exact ⟨by rw [HF.out, HZ.out] <;> rfl, rfl⟩
      · obtain rfl : k = 1 := by omega
        have hfb : fa s n0 1 < 8388608 := by simp at hfa; omega
        have hbd := fin_badN (n0 := n0) (least := 128) HCC.out
        have hgd := fin_good (n0 := n0) (least := 128) HCC.out
        unfold badN at hbd hgd
        have HBD := hid' hbd
        have HGD := hid' hgd
        clear hbd hgd hc hfa
        generalize fa s n0 1 = a at *
        go_wp2
        all_goals
          go_ret2
          first
            | exact ⟨by rw [HF.out, HBD.out (by omega)] <;> rfl, rfl⟩
            | exact ⟨by rw [HF.out, HGD.out (by omega)] <;> rfl, rfl⟩
  by_cases h3 : 224 ≤ gb s 0 ∧ gb s 0 < 240
  · have hf : firstR s = fin s 2 (gb s 0 - 224) 2048 := by unfold firstR; rw [if_neg h1, if_neg h2, if_pos h3]
    rw [← hgg] at hgs hb h1 h2 h3 hf
    obtain ⟨h2a, h2b⟩ := h3
    have h2c : ¬ g < 224 := by omega
    clear hg hgg h2
    have d1 : decide ((g : Int) < 224) = false := by rw [decide_eq_false_iff_not]; omega
    have d2 : decide ((g : Int) < 240) = true := by rw [decide_eq_true_iff]; omega
    have HF := hid' hf
    clear hf
    go_enter Tryd.func30, Tryd.ntmps30
    go_wp2
    obtain ⟨n0, hn0⟩ : ∃ n0, n0 = (g - 224) := ⟨_, rfl⟩
    have hn0i : (n0 : Int) = (g : Int) - ((g - n0 : Nat) : Int) := by omega
    rw [← hn0] at HF
    have hn32 : n0 < 32 := by omega
    go_loop [6, 8] (fun v6 v8 => ∃ k : Nat, k ≤ 2 ∧ v8 = .int .i64 ((k + 1 : Nat) : Int) ∧ v6 = .int .i64 (fa s n0 k : Int) ∧ ∀ j, j < k → cont s (j + 1)) (fun _ v8 => 2 + 1 - (intOf v8).toNat)
    case atStart => exact ⟨0, Nat.zero_le _, rfl, by show Value.int .i64 _ = Value.int .i64 (n0 : Int); congr 1; omega, fun j hj => by omega⟩
    case round =>
      obtain ⟨k, hk, rfl, rfl, hc⟩ := hrel
      have HCC := hid' hc
      have hfa := fa_le s n0 k (by omega) hn32 hc
      by_cases hlt : k < 2
      · have hfb : fa s n0 k < 131072 := by
          rcases (show k = 0 ∨ k = 1 ∨ k = 2 by omega) with h | h | h <;> subst h <;> simp at hfa <;> omega
        have HM := hid' (fun W => ref04_more s (k + 1) W hs (by omega))
        by_cases h1 : cont s (k + 1)
        · have hstep : fa s n0 (k + 1) = fa s n0 k * 64 + (gb s (k + 1) - 128) := rfl
          rw [moreR_pos h1] at HM
          have hgl := gb_lt s (k + 1)
          have hg128 := h1.2.1
          obtain ⟨d, hd⟩ : ∃ d, d = gb s (k + 1) - 128 := ⟨_, rfl⟩
          obtain ⟨a, ha⟩ : ∃ a, a = fa s n0 k := ⟨_, rfl⟩
          rw [← hd] at HM hstep
          rw [← ha] at hstep hfb ⊢
          have hd128 : d < 128 := by omega
          have HST := hid' hstep
          have HC1 := hid' h1
          clear hstep h1 hc hfa ha hd hg128 hgl
          go_wp2_with (go_at_call 37; refine (HM.out _).mono ?_; rintro e w' ⟨rfl, rfl⟩)
          go_round
          case rel =>
            exact ⟨k + 1, by omega, by go_num, by rw [HST.out]; go_num, fun j hj => by
              by_cases hjk : j < k
              · exact HCC.out j hjk
              · obtain rfl : j = k := by omega
                exact HC1.out⟩
          case measure => simp [intOf]; omega
        · rw [moreR_neg h1] at HM
          have hfz := fin_bad (n0 := n0) (least := 2048) hlt h1
          have HZ := hid' hfz
          clear hfz h1 hc hfa
          go_wp2_with (go_at_call 37; refine (HM.out _).mono ?_; rintro e w' ⟨rfl, rfl⟩)
          go_ret2
          exact ⟨by rw [HF.out, HZ.out] <;> rfl, rfl⟩
      · obtain rfl : k = 2 := by omega
        have hfb : fa s n0 2 < 8388608 := by simp at hfa; omega
        have hbd := fin_badN (n0 := n0) (least := 2048) HCC.out
        have hgd := fin_good (n0 := n0) (least := 2048) HCC.out
        unfold badN at hbd hgd
        have HBD := hid' hbd
        have HGD := hid' hgd
        clear hbd hgd hc hfa
        generalize fa s n0 2 = a at *
        go_wp2
        all_goals
          go_ret2
          first
            | exact ⟨by rw [HF.out, HBD.out (by omega)] <;> rfl, rfl⟩
            | exact ⟨by rw [HF.out, HGD.out (by omega)] <;> rfl, rfl⟩
  by_cases h4 : 240 ≤ gb s 0 ∧ gb s 0 < 248
  · have hf : firstR s = fin s 3 (gb s 0 - 240) 65536 := by unfold firstR; rw [if_neg h1, if_neg h2, if_neg h3, if_pos h4]
    rw [← hgg] at hgs hb h1 h2 h3 h4 hf
    obtain ⟨h2a, h2b⟩ := h4
    have h2c : ¬ g < 240 := by omega
    clear hg hgg h2 h3
    have d1 : decide ((g : Int) < 224) = false := by rw [decide_eq_false_iff_not]; omega
    have d2 : decide ((g : Int) < 240) = false := by rw [decide_eq_false_iff_not]; omega
    have d3 : decide ((g : Int) < 248) = true := by rw [decide_eq_true_iff]; omega
    have HF := hid' hf
    clear hf
    go_enter Tryd.func30, Tryd.ntmps30
    go_wp2
    obtain ⟨n0, hn0⟩ : ∃ n0, n0 = (g - 240) := ⟨_, rfl⟩
    have hn0i : (n0 : Int) = (g : Int) - ((g - n0 : Nat) : Int) := by omega
    rw [← hn0] at HF
    have hn32 : n0 < 32 := by omega
    go_loop [6, 8] (fun v6 v8 => ∃ k : Nat, k ≤ 3 ∧ v8 = .int .i64 ((k + 1 : Nat) : Int) ∧ v6 = .int .i64 (fa s n0 k : Int) ∧ ∀ j, j < k → cont s (j + 1)) (fun _ v8 => 3 + 1 - (intOf v8).toNat)
    case atStart => exact ⟨0, Nat.zero_le _, rfl, by show Value.int .i64 _ = Value.int .i64 (n0 : Int); congr 1; omega, fun j hj => by omega⟩
    case round =>
      obtain ⟨k, hk, rfl, rfl, hc⟩ := hrel
      have HCC := hid' hc
      have hfa := fa_le s n0 k (by omega) hn32 hc
      by_cases hlt : k < 3
      · have hfb : fa s n0 k < 131072 := by
          rcases (show k = 0 ∨ k = 1 ∨ k = 2 by omega) with h | h | h <;> subst h <;> simp at hfa <;> omega
        have HM := hid' (fun W => ref04_more s (k + 1) W hs (by omega))
        by_cases h1 : cont s (k + 1)
        · have hstep : fa s n0 (k + 1) = fa s n0 k * 64 + (gb s (k + 1) - 128) := rfl
          rw [moreR_pos h1] at HM
          have hgl := gb_lt s (k + 1)
          have hg128 := h1.2.1
          obtain ⟨d, hd⟩ : ∃ d, d = gb s (k + 1) - 128 := ⟨_, rfl⟩
          obtain ⟨a, ha⟩ : ∃ a, a = fa s n0 k := ⟨_, rfl⟩
          rw [← hd] at HM hstep
          rw [← ha] at hstep hfb ⊢
          have hd128 : d < 128 := by omega
          have HST := hid' hstep
          have HC1 := hid' h1
          clear hstep h1 hc hfa ha hd hg128 hgl
          go_wp2_with (go_at_call 37; refine (HM.out _).mono ?_; rintro e w' ⟨rfl, rfl⟩)
          go_round
          case rel =>
            exact ⟨k + 1, by omega, by go_num, by rw [HST.out]; go_num, fun j hj => by
              by_cases hjk : j < k
              · exact HCC.out j hjk
              · obtain rfl : j = k := by omega
                exact HC1.out⟩
          case measure => simp [intOf]; omega
        · rw [moreR_neg h1] at HM
          have hfz := fin_bad (n0 := n0) (least := 65536) hlt h1
          have HZ := hid' hfz
          clear hfz h1 hc hfa
          go_wp2_with (go_at_call 37; refine (HM.out _).mono ?_; rintro e w' ⟨rfl, rfl⟩)
          go_ret2
          exact ⟨by rw [HF.out, HZ.out] <;> rfl, rfl⟩
      · obtain rfl : k = 3 := by omega
        have hfb : fa s n0 3 < 8388608 := by simp at hfa; omega
        have hbd := fin_badN (n0 := n0) (least := 65536) HCC.out
        have hgd := fin_good (n0 := n0) (least := 65536) HCC.out
        unfold badN at hbd hgd
        have HBD := hid' hbd
        have HGD := hid' hgd
        clear hbd hgd hc hfa
        generalize fa s n0 3 = a at *
        go_wp2
        all_goals
          go_ret2
          first
            | exact ⟨by rw [HF.out, HBD.out (by omega)] <;> rfl, rfl⟩
            | exact ⟨by rw [HF.out, HGD.out (by omega)] <;> rfl, rfl⟩
  · have hf : firstR s = (0, 0) := by unfold firstR; rw [if_neg h1, if_neg h2, if_neg h3, if_neg h4]
    rw [← hgg] at hgs hb h1 h2 h3 h4
    rw [hf]
    have h5 : g < 192 ∨ 248 ≤ g := by omega
    clear hf hg hgg h2 h3 h4
    rcases h5 with h5 | h5
    all_goals
      go_enter Tryd.func30, Tryd.ntmps30
      go_wp2
      go_ret2
      exact ⟨rfl, rfl⟩
end Go.Proofs.YtckndjgdfhbgcaaDoor
