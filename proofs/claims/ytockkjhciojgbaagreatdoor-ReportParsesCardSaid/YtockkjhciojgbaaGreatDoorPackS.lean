/- Several texts as one. No condition beyond each one's own. -/
import Derived.Test.YtockkjhciojgbaaGreatDoorPackA
import Derived.Lib.RuneCountTail
import Derived.Shelf.Unicode.DecodeSlow
import Derived.Test.YtockkjhciojgbaaGreatDoorProg
/- SignPure -/
/- The signs of a text, byte by byte: the plain law. No program. -/
namespace Go.Proofs.YtockkjhciojgbaaGreatDoor
set_option maxRecDepth 100000
set_option linter.unusedSimpArgs false
set_option linter.unusedVariables false

/-- a byte, or 0 -/
def gb (s : ByteArray) (i : Nat) : Nat := (s.get! i).toNat
theorem gb_eq (s : ByteArray) (i : Nat) (h : i < s.size) : gb s i = (s[i]'h).toNat := by
  have : s.data[i]! = s.data[i]'h := getElem!_pos s.data i h
  show (s.data[i]!).toNat = _
  rw [this]; rfl
theorem gb_lt (s : ByteArray) (i : Nat) : gb s i < 256 := (s.get! i).toNat_lt
def cont (s : ByteArray) (i : Nat) : Prop := i < s.size ∧ 128 ≤ gb s i ∧ gb s i < 192
instance (s : ByteArray) (i : Nat) : Decidable (cont s i) := by unfold cont; exact inferInstance
def moreR (s : ByteArray) (i : Nat) : Int := if cont s i then (gb s i : Int) - 128 else -1
/-- the number so far, behind k bytes -/
def fa (s : ByteArray) (n0 : Nat) : Nat → Nat
  | 0 => n0
  | k + 1 => fa s n0 k * 64 + (gb s (k + 1) - 128)
def badN (n least : Nat) : Prop := n < least ∨ 1114111 < n ∨ (55296 ≤ n ∧ n ≤ 57343)
instance (n least : Nat) : Decidable (badN n least) := by unfold badN; exact inferInstance
/-- m: how many bytes stand behind the first one -/
def fin (s : ByteArray) (m n0 least : Nat) : Nat × Nat := if ∀ j, j < m → cont s (j + 1) then (if badN (fa s n0 m) least then (0, 0) else (fa s n0 m, m + 1)) else (0, 0)
def firstR (s : ByteArray) : Nat × Nat :=
  if gb s 0 < 128 then (gb s 0, 1) else if 192 ≤ gb s 0 ∧ gb s 0 < 224 then fin s 1 (gb s 0 - 192) 128 else if 224 ≤ gb s 0 ∧ gb s 0 < 240 then fin s 2 (gb s 0 - 224) 2048
  else if 240 ≤ gb s 0 ∧ gb s 0 < 248 then fin s 3 (gb s 0 - 240) 65536 else (0, 0)
/-- what a range finds at a place is a byte of no sign -/
def strayAt (s : ByteArray) (i : Nat) : Bool := Utf8.decode s i == (65533, 1)
theorem valid_iff (n : Nat) : Utf8.valid (n : Int) = true ↔ (n < 55296 ∨ (57344 ≤ n ∧ n ≤ 1114111)) := by
  unfold Utf8.valid
  simp only [Bool.or_eq_true, Bool.and_eq_true, decide_eq_true_eq]
  omega
theorem firstR_decode (s : ByteArray) (hs : 0 < s.size) : firstR s = if Utf8.decode s 0 = (65533, 1) then (0, 0) else Utf8.decode s 0 := by
  have hat : ∀ k, (s.get! (0 + k)).toNat = gb s k := fun k => by rw [Nat.zero_add]; rfl
  have hc : ∀ k, (0 + k < s.size && (gb s k / 64 == 2)) = decide (cont s k) := fun k => by
    have := gb_lt s k
    have e : (k < s.size ∧ gb s k / 64 = 2) ↔ cont s k := ⟨fun ⟨a, b⟩ => ⟨a, by omega, by omega⟩, fun ⟨a, b, c⟩ => ⟨a, by omega⟩⟩
    rw [Nat.zero_add]
    by_cases h : cont s k
    · obtain ⟨a, b⟩ := e.2 h
      simp [a, b, h]
    · cases hb : (decide (k < s.size) && (gb s k / 64 == 2)) with
      | false => simp [h]
      | true =>
        exfalso
        simp only [Bool.and_eq_true, decide_eq_true_eq, beq_iff_eq] at hb
        exact h (e.1 hb)
  have g0 := gb_lt s 0
  have g1 := gb_lt s 1
  have g2 := gb_lt s 2
  have g3 := gb_lt s 3
  unfold Utf8.decode
  simp only [hat, hc]
  unfold firstR
  by_cases h1 : gb s 0 < 128
  · rw [if_pos h1, if_pos h1, if_neg (by intro h; injection h with h _; omega)]
  rw [if_neg h1, if_neg h1]
  by_cases h2 : 192 ≤ gb s 0 ∧ gb s 0 < 224
  · have e2 : (gb s 0 / 32 == 6) = true := by rw [beq_iff_eq]; omega
    rw [if_pos h2, e2, Bool.true_and]
    unfold fin
    by_cases hc1 : cont s 1
    · rw [if_pos (show ∀ j, j < 1 → cont s (j + 1) from fun j hj => by
        obtain rfl : j = 0 := by omega
        exact hc1), if_pos (show decide (cont s 1) = true by simpa using hc1)]
      have hn : gb s 0 % 32 * 64 + gb s 1 % 64 = fa s (gb s 0 - 192) 1 := by
        simp only [fa, Nat.zero_add, Nat.reduceAdd]; have := hc1.2; omega
      rw [hn]
      have hlt : fa s (gb s 0 - 192) 1 < 2048 := by simp only [fa, Nat.zero_add, Nat.reduceAdd]; have := hc1.2; omega
      by_cases hb : badN (fa s (gb s 0 - 192) 1) 128
      · have : ¬ fa s (gb s 0 - 192) 1 ≥ 128 := by unfold badN at hb; omega
        rw [if_pos hb, if_neg (show ¬ fa s (gb s 0 - 192) 1 ≥ 128 from this), if_pos (show ((Utf8.runeError, 1) : Nat × Nat) = (65533, 1) from rfl)]
      · have : fa s (gb s 0 - 192) 1 ≥ 128 := by unfold badN at hb; omega
        rw [if_neg hb, if_pos (show fa s (gb s 0 - 192) 1 ≥ 128 from this), if_neg (by intro h; injection h with _ h; cases h)]
    · rw [if_neg (fun h => hc1 (h 0 (by omega))), if_neg (show ¬ decide (cont s 1) = true by simpa using hc1)]
      have e3 : (gb s 0 / 16 == 14) = false := by rw [beq_eq_false_iff_ne]; omega
      have e4 : (gb s 0 / 8 == 30) = false := by rw [beq_eq_false_iff_ne]; omega
      rw [e3, e4]
      simp [Utf8.runeError]
  rw [if_neg h2]
  have e2 : (gb s 0 / 32 == 6) = false := by rw [beq_eq_false_iff_ne]; omega
  rw [e2, Bool.false_and, if_neg (show ¬ (false = true) by decide)]
  by_cases h3 : 224 ≤ gb s 0 ∧ gb s 0 < 240
  · have e3 : (gb s 0 / 16 == 14) = true := by rw [beq_iff_eq]; omega
    have e4 : (gb s 0 / 8 == 30) = false := by rw [beq_eq_false_iff_ne]; omega
    rw [if_pos h3, e3, e4, Bool.true_and]
    unfold fin
    by_cases hc1 : cont s 1 ∧ cont s 2
    · obtain ⟨hc1, hc2⟩ := hc1
      rw [if_pos (show ∀ j, j < 2 → cont s (j + 1) from fun j hj => by
        rcases (show j = 0 ∨ j = 1 by omega) with rfl | rfl
        · exact hc1
        · exact hc2), if_pos (show (decide (cont s 1) && decide (cont s 2)) = true by simp [hc1, hc2])]
      have hn : gb s 0 % 16 * 4096 + gb s 1 % 64 * 64 + gb s 2 % 64 = fa s (gb s 0 - 224) 2 := by
        simp only [fa, Nat.zero_add, Nat.reduceAdd]; have := hc1.2; have := hc2.2; omega
      rw [hn]
      have hlt : fa s (gb s 0 - 224) 2 < 65536 := by simp only [fa, Nat.zero_add, Nat.reduceAdd]; have := hc1.2; have := hc2.2; omega
      have hv := valid_iff (fa s (gb s 0 - 224) 2)
      by_cases hb : badN (fa s (gb s 0 - 224) 2) 2048
      · rw [if_pos hb, if_neg (show ¬ (decide (fa s (gb s 0 - 224) 2 ≥ 2048) && Utf8.valid (fa s (gb s 0 - 224) 2 : Int)) = true by rw [Bool.and_eq_true, hv, decide_eq_true_eq]; unfold badN at hb; omega), if_pos (show ((Utf8.runeError, 1) : Nat × Nat) = (65533, 1) from rfl)]
      · rw [if_neg hb, if_pos (show (decide (fa s (gb s 0 - 224) 2 ≥ 2048) && Utf8.valid (fa s (gb s 0 - 224) 2 : Int)) = true by rw [Bool.and_eq_true, hv, decide_eq_true_eq]; unfold badN at hb; omega), if_neg (by intro h; injection h with _ h; cases h)]
    · rw [if_neg (fun h => hc1 ⟨h 0 (by omega), h 1 (by omega)⟩), if_neg (show ¬ (decide (cont s 1) && decide (cont s 2)) = true by rw [Bool.and_eq_true, decide_eq_true_eq, decide_eq_true_eq]; exact hc1)]
      simp [Utf8.runeError]
  rw [if_neg h3]
  have e3 : (gb s 0 / 16 == 14) = false := by rw [beq_eq_false_iff_ne]; omega
  rw [e3, Bool.false_and, Bool.false_and, if_neg (show ¬ (false = true) by decide)]
  by_cases h4 : 240 ≤ gb s 0 ∧ gb s 0 < 248
  · have e4 : (gb s 0 / 8 == 30) = true := by rw [beq_iff_eq]; omega
    rw [if_pos h4, e4, Bool.true_and]
    unfold fin
    by_cases hc1 : (cont s 1 ∧ cont s 2) ∧ cont s 3
    · obtain ⟨⟨hc1, hc2⟩, hc3⟩ := hc1
      rw [if_pos (show ∀ j, j < 3 → cont s (j + 1) from fun j hj => by
        rcases (show j = 0 ∨ j = 1 ∨ j = 2 by omega) with rfl | rfl | rfl
        · exact hc1
        · exact hc2
        · exact hc3), if_pos (show (decide (cont s 1) && decide (cont s 2) && decide (cont s 3)) = true by simp [hc1, hc2, hc3])]
      have hn : gb s 0 % 8 * 262144 + gb s 1 % 64 * 4096 + gb s 2 % 64 * 64 + gb s 3 % 64 = fa s (gb s 0 - 240) 3 := by
        simp only [fa, Nat.zero_add, Nat.reduceAdd]; have := hc1.2; have := hc2.2; have := hc3.2; omega
      rw [hn]
      have hv := valid_iff (fa s (gb s 0 - 240) 3)
      by_cases hb : badN (fa s (gb s 0 - 240) 3) 65536
      · rw [if_pos hb, if_neg (show ¬ (decide (fa s (gb s 0 - 240) 3 ≥ 65536) && Utf8.valid (fa s (gb s 0 - 240) 3 : Int)) = true by rw [Bool.and_eq_true, hv, decide_eq_true_eq]; unfold badN at hb; omega), if_pos (show ((Utf8.runeError, 1) : Nat × Nat) = (65533, 1) from rfl)]
      · rw [if_neg hb, if_pos (show (decide (fa s (gb s 0 - 240) 3 ≥ 65536) && Utf8.valid (fa s (gb s 0 - 240) 3 : Int)) = true by rw [Bool.and_eq_true, hv, decide_eq_true_eq]; unfold badN at hb; omega), if_neg (by intro h; injection h with _ h; cases h)]
    · rw [if_neg (fun h => hc1 ⟨⟨h 0 (by omega), h 1 (by omega)⟩, h 2 (by omega)⟩), if_neg (show ¬ (decide (cont s 1) && decide (cont s 2) && decide (cont s 3)) = true by rw [Bool.and_eq_true, Bool.and_eq_true, decide_eq_true_eq, decide_eq_true_eq, decide_eq_true_eq]; exact hc1)]
      simp [Utf8.runeError]
  rw [if_neg h4]
  have e4 : (gb s 0 / 8 == 30) = false := by rw [beq_eq_false_iff_ne]; omega
  rw [e4]
  simp [Utf8.runeError]

/-! ### signs, step by step -/
/-- the number of the sign at a place, and its bytes; a byte of no sign is told below 0 -/
def sgN (s : ByteArray) (i : Nat) : Int := if strayAt s i = true then -(gb s i : Int) - 1 else ((Utf8.decode s i).1 : Int)
def sgW (s : ByteArray) (i : Nat) : Nat := (Utf8.decode s i).2
theorem sgW_pos (s : ByteArray) (i : Nat) : 1 ≤ sgW s i ∧ sgW s i ≤ 4 := by
  unfold sgW Utf8.decode
  simp only
  repeat' split
  all_goals exact ⟨by simp, by simp⟩
theorem stray_w {s : ByteArray} {i : Nat} (h : strayAt s i = true) : sgW s i = 1 := by
  unfold strayAt at h; rw [beq_iff_eq] at h; unfold sgW; rw [h]
def sStep (s : ByteArray) (st : List Int × Nat) : List Int × Nat := if st.2 < s.size then (st.1 ++ [sgN s st.2], st.2 + sgW s st.2) else st
def sSt (s : ByteArray) : Nat → List Int × Nat
  | 0 => ([], 0)
  | k + 1 => sStep s (sSt s k)
def signs (s : ByteArray) : List Int := (sSt s s.size).1
theorem sSt_stay {s : ByteArray} {k : Nat} (h : ¬ (sSt s k).2 < s.size) : ∀ j, sSt s (k + j) = sSt s k := by
  intro j
  induction j with
  | zero => rfl
  | succ j ih =>
    show sStep s (sSt s (k + j)) = _
    rw [ih]; unfold sStep; rw [if_neg h]
theorem sSt_far (s : ByteArray) : ∀ k, k ≤ (sSt s k).2 ∨ ¬ (sSt s k).2 < s.size := by
  intro k
  induction k with
  | zero => exact .inl (Nat.zero_le _)
  | succ k ih =>
    show k + 1 ≤ (sStep s (sSt s k)).2 ∨ ¬ (sStep s (sSt s k)).2 < s.size
    by_cases h : (sSt s k).2 < s.size
    · rcases ih with ih | ih
      · have := sgW_pos s (sSt s k).2
        unfold sStep
        rw [if_pos h]
        exact .inl (by show k + 1 ≤ (sSt s k).2 + _; omega)
      · exact absurd h ih
    · unfold sStep
      rw [if_neg h]
      exact .inr h
theorem sSt_end {s : ByteArray} {k : Nat} (h : ¬ (sSt s k).2 < s.size) : (sSt s k).1 = signs s := by
  have he : ¬ (sSt s s.size).2 < s.size := by
    rcases sSt_far s s.size with h | h
    · omega
    · exact h
  unfold signs
  by_cases hle : k ≤ s.size
  · have := sSt_stay h (s.size - k)
    rw [show k + (s.size - k) = s.size by omega] at this
    rw [this]
  · have := sSt_stay he (k - s.size)
    rw [show s.size + (k - s.size) = k by omega] at this
    rw [this]
theorem sSt_le (s : ByteArray) : ∀ k, (sSt s k).1.length ≤ (sSt s k).2 ∧ (sSt s k).1.length ≤ k := by
  intro k
  induction k with
  | zero => exact ⟨Nat.le_refl _, Nat.le_refl _⟩
  | succ k ih =>
    show (sStep s (sSt s k)).1.length ≤ (sStep s (sSt s k)).2 ∧ (sStep s (sSt s k)).1.length ≤ k + 1
    unfold sStep
    split
    · have := sgW_pos s (sSt s k).2
      simp only [List.length_append, List.length_singleton]
      omega
    · omega
theorem signs_len (s : ByteArray) : (signs s).length ≤ s.size := (sSt_le s s.size).2
/-- what is read stays read -/
theorem sSt_more (s : ByteArray) (j : Nat) : ∀ m, ∃ l, (sSt s (j + m)).1 = (sSt s j).1 ++ l := by
  intro m
  induction m with
  | zero => exact ⟨[], by simp⟩
  | succ m ih =>
    obtain ⟨l, hl⟩ := ih
    show ∃ l, (sStep s (sSt s (j + m))).1 = _
    unfold sStep
    split
    · exact ⟨l ++ [sgN s (sSt s (j + m)).2], by show (sSt s (j + m)).1 ++ _ = _; rw [hl, List.append_assoc]⟩
    · exact ⟨l, hl⟩
theorem sgN_mem {s : ByteArray} {k : Nat} (h : (sSt s k).2 < s.size) : sgN s (sSt s k).2 ∈ signs s := by
  by_cases hk : k + 1 ≤ s.size
  · obtain ⟨l, hl⟩ := sSt_more s (k + 1) (s.size - (k + 1))
    rw [show k + 1 + (s.size - (k + 1)) = s.size by omega] at hl
    unfold signs
    rw [hl]
    have : (sSt s (k + 1)).1 = (sSt s k).1 ++ [sgN s (sSt s k).2] := by
      show (sStep s (sSt s k)).1 = _
      unfold sStep; rw [if_pos h]
    rw [this]
    simp
  · rcases sSt_far s k with h1 | h1
    · omega
    · exact absurd h h1
/-- Has a text a sign? -/
def hasB (s : ByteArray) (n : Int) : Bool := decide (n ∈ signs s ∧ 0 ≤ n)
theorem dec_lt (s : ByteArray) (i : Nat) : (Utf8.decode s i).1 ≤ 2097151 := by
  unfold Utf8.decode
  simp only
  repeat' split
  all_goals first | (simp only [Utf8.runeError]; omega) | (simp only; omega)
theorem decode_tail0 (s : ByteArray) (n : Nat) : Utf8.decode (s.extract n s.size) 0 = Utf8.decode s n := by
  rw [Lib.tail_decode, Nat.add_zero]
theorem decodeGo_tail {s : ByteArray} {n : Nat} (h : n < s.size) : Lib.decodeGo (s.extract n s.size) = Utf8.decode s n := by
  unfold Lib.decodeGo
  rw [if_neg (by rw [ByteArray.size_extract]; omega), decode_tail0]
theorem gb_tail (s : ByteArray) (n : Nat) (h : n < s.size) : gb (s.extract n s.size) 0 = gb s n := by
  rw [gb_eq _ _ (by rw [ByteArray.size_extract]; omega), gb_eq _ _ h, ByteArray.getElem_extract]
  simp only [Nat.add_zero]
theorem firstR_tail {s : ByteArray} {n : Nat} (h : n < s.size) : firstR (s.extract n s.size) = if strayAt s n = true then (0, 0) else Utf8.decode s n := by
  rw [firstR_decode _ (by rw [ByteArray.size_extract]; omega), decode_tail0]
  unfold strayAt
  by_cases h1 : Utf8.decode s n = (65533, 1)
  · rw [if_pos h1, if_pos (by rw [h1]; rfl)]
  · rw [if_neg h1, if_neg (by simpa using h1)]
end Go.Proofs.YtockkjhciojgbaaGreatDoor
/- SignRef -/
/- The reference's signs of a text, walked. No condition. -/
namespace Go.Proofs.YtockkjhciojgbaaGreatDoor
set_option maxRecDepth 100000
set_option linter.unusedSimpArgs false
open Go.RowKit
set_option linter.unusedVariables false
set_option linter.unusedSimpArgs false

theorem moreR_pos {s : ByteArray} {i : Nat} (h : cont s i) : moreR s i = ((gb s i - 128 : Nat) : Int) := by unfold moreR; rw [if_pos h]; have := h.2; omega
theorem moreR_neg {s : ByteArray} {i : Nat} (h : ¬ cont s i) : moreR s i = -1 := by unfold moreR; rw [if_neg h]
theorem ref04_more (s : ByteArray) (i : Nat) (w : World) (hs : s.size ≤ maxLen) (hi : i ≤ 100) :
    Calls Tryz.prog 151 #[.string s, .int .i64 (i : Int)] w fun e w' => e = .returned (.int .i64 (moreR s i)) ∧ w = w' := by
  have hs' : s.size ≤ 9223372036854775807 := hs
  clear hs
  by_cases hlt : i < s.size
  · have hg := gb_eq s i hlt
    have hb := gb_lt s i
    have hgs : (s[i]'hlt).toNat = gb s i := hg.symm
    by_cases h1 : gb s i < 128
    · have hm := moreR_neg (s := s) (i := i) (fun h => by have := h.2; omega)
      rw [hm]
      clear hm hg
      generalize gb s i = g at *
      go_enter Tryz.func151, Tryz.ntmps151
      go_wp2
      go_ret
      exact ⟨rfl, rfl⟩
    · by_cases h2 : gb s i < 192
      · have hm := moreR_pos (s := s) (i := i) ⟨hlt, by omega, h2⟩
        rw [hm]
        clear hm hg
        generalize gb s i = g at *
        go_enter Tryz.func151, Tryz.ntmps151
        go_wp2
        go_ret
        exact ⟨ret_int (by omega), rfl⟩
      · have hm := moreR_neg (s := s) (i := i) (fun h => by have := h.2; omega)
        rw [hm]
        clear hm hg
        generalize gb s i = g at *
        go_enter Tryz.func151, Tryz.ntmps151
        go_wp2
        go_ret
        exact ⟨rfl, rfl⟩
  · have hm := moreR_neg (s := s) (i := i) (fun h => hlt h.1)
    rw [hm]
    clear hm
    go_enter Tryz.func151, Tryz.ntmps151
    go_wp2
    go_ret
    exact ⟨rfl, rfl⟩
theorem fa_le (s : ByteArray) (n0 : Nat) : ∀ k, k ≤ 3 → n0 < 32 → (∀ j, j < k → cont s (j + 1)) → fa s n0 k < 32 * 64 ^ k := by
  intro k
  induction k with
  | zero => intro _ h _; simpa [fa] using h
  | succ k ih =>
    intro hk h hc
    have h1 := ih (by omega) h (fun j hj => hc j (by omega))
    have h2 := hc k (by omega)
    have h3 := h2.2
    simp only [fa]
    rw [Nat.pow_succ]
    omega
theorem fin_bad {s : ByteArray} {m n0 least k : Nat} (hk : k < m) (h : ¬ cont s (k + 1)) : fin s m n0 least = (0, 0) := by
  unfold fin; rw [if_neg (fun hh => h (hh k hk))]
theorem fin_badN {s : ByteArray} {m n0 least : Nat} (h : ∀ j, j < m → cont s (j + 1)) (hb : badN (fa s n0 m) least) : fin s m n0 least = (0, 0) := by
  unfold fin; rw [if_pos h, if_pos hb]
theorem fin_good {s : ByteArray} {m n0 least : Nat} (h : ∀ j, j < m → cont s (j + 1)) (hb : ¬ badN (fa s n0 m) least) : fin s m n0 least = (fa s n0 m, m + 1) := by
  unfold fin; rw [if_pos h, if_neg hb]
set_option maxHeartbeats 8000000 in
theorem ref04_First (s : ByteArray) (w : World) (hs : s.size ≤ maxLen) (h0 : 0 < s.size) :
    Calls Tryz.prog 117 #[.string s] w fun e w' => e = .returned (.tuple #[.int .i64 ((firstR s).1 : Int), .int .i64 ((firstR s).2 : Int)]) ∧ w = w' := by
  have hs' : s.size ≤ 9223372036854775807 := hs
  have hg := gb_eq s 0 h0
  have hb := gb_lt s 0
  have hgs : (s[0]'h0).toNat = gb s 0 := hg.symm
  obtain ⟨g, hgg⟩ : ∃ g, g = gb s 0 := ⟨_, rfl⟩
  by_cases h1 : gb s 0 < 128
  · have hf : firstR s = (gb s 0, 1) := by unfold firstR; rw [if_pos h1]
    rw [← hgg] at hgs hb h1 hf
    rw [hf]
    clear hf hg hgg
    go_enter Tryz.func117, Tryz.ntmps117
    go_wp2
    go_ret2
    exact ⟨rfl, rfl⟩
  by_cases h2 : 192 ≤ gb s 0 ∧ gb s 0 < 224
  · have hf : firstR s = fin s 1 (gb s 0 - 192) 128 := by unfold firstR; rw [if_neg h1, if_pos h2]
    rw [← hgg] at hgs hb h1 h2 hf
    obtain ⟨h2a, h2b⟩ := h2
    clear hg hgg
    have d1 : decide ((g : Int) < 224) = true := by rw [decide_eq_true_iff]; omega
    have HF := hid' hf
    clear hf
    go_enter Tryz.func117, Tryz.ntmps117
    go_wp2
    obtain ⟨n0, hn0⟩ : ∃ n0, n0 = (g - 192) := ⟨_, rfl⟩
    have hn0i : (n0 : Int) = (g : Int) - ((g - n0 : Nat) : Int) := by omega
    rw [← hn0] at HF
    have hn32 : n0 < 32 := by omega
    go_loop [6, 8] (fun v6 v8 => ∃ k : Nat, k ≤ 1 ∧ v8 = .int .i64 ((k + 1 : Nat) : Int) ∧ v6 = .int .i64 (fa s n0 k : Int) ∧ ∀ j, j < k → cont s (j + 1)) (fun _ v8 => 1 + 1 - (intOf v8).toNat)
    case atStart => exact ⟨0, Nat.zero_le _, rfl, by show Value.int .i64 _ = Value.int .i64 (n0 : Int); congr 1; omega, fun j hj => by omega⟩
    case round =>
      obtain ⟨k, hk, rfl, rfl, hc⟩ := hrel
      have HCC := hid' hc
      have hfa := fa_le s n0 k (by omega) hn32 hc
      by_cases hlt : k < 1
      · have hfb : fa s n0 k < 131072 := by
          rcases (show k = 0 ∨ k = 1 ∨ k = 2 by omega) with h | h | h <;> subst h <;> simp at hfa <;> omega
        have HM := hid' (fun W => ref04_more s (k + 1) W hs (by omega))
        by_cases h1 : cont s (k + 1)
        · have hstep : fa s n0 (k + 1) = fa s n0 k * 64 + (gb s (k + 1) - 128) := rfl
          rw [moreR_pos h1] at HM
          have hgl := gb_lt s (k + 1)
          have hg128 := h1.2.1
          obtain ⟨d, hd⟩ : ∃ d, d = gb s (k + 1) - 128 := ⟨_, rfl⟩
          obtain ⟨a, ha⟩ : ∃ a, a = fa s n0 k := ⟨_, rfl⟩
          rw [← hd] at HM hstep
          rw [← ha] at hstep hfb ⊢
          have hd128 : d < 128 := by omega
          have HST := hid' hstep
          have HC1 := hid' h1
          clear hstep h1 hc hfa ha hd hg128 hgl
          go_wp2_with (go_at_call 151; refine (HM.out _).mono ?_; rintro e w' ⟨rfl, rfl⟩)
          go_round
          case rel =>
            exact ⟨k + 1, by omega, by go_num, by rw [HST.out]; go_num, fun j hj => by
              by_cases hjk : j < k
              · exact HCC.out j hjk
              · obtain rfl : j = k := by omega
                exact HC1.out⟩
          case measure => simp [intOf]; omega
        · rw [moreR_neg h1] at HM
          have hfz := fin_bad (n0 := n0) (least := 128) hlt h1
          have HZ := hid' hfz
          clear hfz h1 hc hfa
          go_wp2_with (go_at_call 151; refine (HM.out _).mono ?_; rintro e w' ⟨rfl, rfl⟩)
          go_ret2
          exact ⟨by rw [HF.out, HZ.out] <;> rfl, rfl⟩
      · obtain rfl : k = 1 := by omega
        have hfb : fa s n0 1 < 8388608 := by simp at hfa; omega
        have hbd := fin_badN (n0 := n0) (least := 128) HCC.out
        have hgd := fin_good (n0 := n0) (least := 128) HCC.out
        unfold badN at hbd hgd
        have HBD := hid' hbd
        have HGD := hid' hgd
        clear hbd hgd hc hfa
        generalize fa s n0 1 = a at *
        go_wp2
        all_goals
          go_ret2
          first
            | exact ⟨by rw [HF.out, HBD.out (by omega)] <;> rfl, rfl⟩
            | exact ⟨by rw [HF.out, HGD.out (by omega)] <;> rfl, rfl⟩
  by_cases h3 : 224 ≤ gb s 0 ∧ gb s 0 < 240
  · have hf : firstR s = fin s 2 (gb s 0 - 224) 2048 := by unfold firstR; rw [if_neg h1, if_neg h2, if_pos h3]
    rw [← hgg] at hgs hb h1 h2 h3 hf
    obtain ⟨h2a, h2b⟩ := h3
    have h2c : ¬ g < 224 := by omega
    clear hg hgg h2
    have d1 : decide ((g : Int) < 224) = false := by rw [decide_eq_false_iff_not]; omega
    have d2 : decide ((g : Int) < 240) = true := by rw [decide_eq_true_iff]; omega
    have HF := hid' hf
    clear hf
    go_enter Tryz.func117, Tryz.ntmps117
    go_wp2
    obtain ⟨n0, hn0⟩ : ∃ n0, n0 = (g - 224) := ⟨_, rfl⟩
    have hn0i : (n0 : Int) = (g : Int) - ((g - n0 : Nat) : Int) := by omega
    rw [← hn0] at HF
    have hn32 : n0 < 32 := by omega
    go_loop [6, 8] (fun v6 v8 => ∃ k : Nat, k ≤ 2 ∧ v8 = .int .i64 ((k + 1 : Nat) : Int) ∧ v6 = .int .i64 (fa s n0 k : Int) ∧ ∀ j, j < k → cont s (j + 1)) (fun _ v8 => 2 + 1 - (intOf v8).toNat)
    case atStart => exact ⟨0, Nat.zero_le _, rfl, by show Value.int .i64 _ = Value.int .i64 (n0 : Int); congr 1; omega, fun j hj => by omega⟩
    case round =>
      obtain ⟨k, hk, rfl, rfl, hc⟩ := hrel
      have HCC := hid' hc
      have hfa := fa_le s n0 k (by omega) hn32 hc
      by_cases hlt : k < 2
      · have hfb : fa s n0 k < 131072 := by
          rcases (show k = 0 ∨ k = 1 ∨ k = 2 by omega) with h | h | h <;> subst h <;> simp at hfa <;> omega
        have HM := hid' (fun W => ref04_more s (k + 1) W hs (by omega))
        by_cases h1 : cont s (k + 1)
        · have hstep : fa s n0 (k + 1) = fa s n0 k * 64 + (gb s (k + 1) - 128) := rfl
          rw [moreR_pos h1] at HM
          have hgl := gb_lt s (k + 1)
          have hg128 := h1.2.1
          obtain ⟨d, hd⟩ : ∃ d, d = gb s (k + 1) - 128 := ⟨_, rfl⟩
          obtain ⟨a, ha⟩ : ∃ a, a = fa s n0 k := ⟨_, rfl⟩
          rw [← hd] at HM hstep
          rw [← ha] at hstep hfb ⊢
          have hd128 : d < 128 := by omega
          have HST := hid' hstep
          have HC1 := hid' h1
          clear hstep h1 hc hfa ha hd hg128 hgl
          go_wp2_with (go_at_call 151; refine (HM.out _).mono ?_; rintro e w' ⟨rfl, rfl⟩)
          go_round
          case rel =>
            exact ⟨k + 1, by omega, by go_num, by rw [HST.out]; go_num, fun j hj => by
              by_cases hjk : j < k
              · exact HCC.out j hjk
              · obtain rfl : j = k := by omega
                exact HC1.out⟩
          case measure => simp [intOf]; omega
        · rw [moreR_neg h1] at HM
          have hfz := fin_bad (n0 := n0) (least := 2048) hlt h1
          have HZ := hid' hfz
          clear hfz h1 hc hfa
          go_wp2_with (go_at_call 151; refine (HM.out _).mono ?_; rintro e w' ⟨rfl, rfl⟩)
          go_ret2
          exact ⟨by rw [HF.out, HZ.out] <;> rfl, rfl⟩
      · obtain rfl : k = 2 := by omega
        have hfb : fa s n0 2 < 8388608 := by simp at hfa; omega
        have hbd := fin_badN (n0 := n0) (least := 2048) HCC.out
        have hgd := fin_good (n0 := n0) (least := 2048) HCC.out
        unfold badN at hbd hgd
        have HBD := hid' hbd
        have HGD := hid' hgd
        clear hbd hgd hc hfa
        generalize fa s n0 2 = a at *
        go_wp2
        all_goals
          go_ret2
          first
            | exact ⟨by rw [HF.out, HBD.out (by omega)] <;> rfl, rfl⟩
            | exact ⟨by rw [HF.out, HGD.out (by omega)] <;> rfl, rfl⟩
  by_cases h4 : 240 ≤ gb s 0 ∧ gb s 0 < 248
  · have hf : firstR s = fin s 3 (gb s 0 - 240) 65536 := by unfold firstR; rw [if_neg h1, if_neg h2, if_neg h3, if_pos h4]
    rw [← hgg] at hgs hb h1 h2 h3 h4 hf
    obtain ⟨h2a, h2b⟩ := h4
    have h2c : ¬ g < 240 := by omega
    clear hg hgg h2 h3
    have d1 : decide ((g : Int) < 224) = false := by rw [decide_eq_false_iff_not]; omega
    have d2 : decide ((g : Int) < 240) = false := by rw [decide_eq_false_iff_not]; omega
    have d3 : decide ((g : Int) < 248) = true := by rw [decide_eq_true_iff]; omega
    have HF := hid' hf
    clear hf
    go_enter Tryz.func117, Tryz.ntmps117
    go_wp2
    obtain ⟨n0, hn0⟩ : ∃ n0, n0 = (g - 240) := ⟨_, rfl⟩
    have hn0i : (n0 : Int) = (g : Int) - ((g - n0 : Nat) : Int) := by omega
    rw [← hn0] at HF
    have hn32 : n0 < 32 := by omega
    go_loop [6, 8] (fun v6 v8 => ∃ k : Nat, k ≤ 3 ∧ v8 = .int .i64 ((k + 1 : Nat) : Int) ∧ v6 = .int .i64 (fa s n0 k : Int) ∧ ∀ j, j < k → cont s (j + 1)) (fun _ v8 => 3 + 1 - (intOf v8).toNat)
    case atStart => exact ⟨0, Nat.zero_le _, rfl, by show Value.int .i64 _ = Value.int .i64 (n0 : Int); congr 1; omega, fun j hj => by omega⟩
    case round =>
      obtain ⟨k, hk, rfl, rfl, hc⟩ := hrel
      have HCC := hid' hc
      have hfa := fa_le s n0 k (by omega) hn32 hc
      by_cases hlt : k < 3
      · have hfb : fa s n0 k < 131072 := by
          rcases (show k = 0 ∨ k = 1 ∨ k = 2 by omega) with h | h | h <;> subst h <;> simp at hfa <;> omega
        have HM := hid' (fun W => ref04_more s (k + 1) W hs (by omega))
        by_cases h1 : cont s (k + 1)
        · have hstep : fa s n0 (k + 1) = fa s n0 k * 64 + (gb s (k + 1) - 128) := rfl
          rw [moreR_pos h1] at HM
          have hgl := gb_lt s (k + 1)
          have hg128 := h1.2.1
          obtain ⟨d, hd⟩ : ∃ d, d = gb s (k + 1) - 128 := ⟨_, rfl⟩
          obtain ⟨a, ha⟩ : ∃ a, a = fa s n0 k := ⟨_, rfl⟩
          rw [← hd] at HM hstep
          rw [← ha] at hstep hfb ⊢
          have hd128 : d < 128 := by omega
          have HST := hid' hstep
          have HC1 := hid' h1
          clear hstep h1 hc hfa ha hd hg128 hgl
          go_wp2_with (go_at_call 151; refine (HM.out _).mono ?_; rintro e w' ⟨rfl, rfl⟩)
          go_round
          case rel =>
            exact ⟨k + 1, by omega, by go_num, by rw [HST.out]; go_num, fun j hj => by
              by_cases hjk : j < k
              · exact HCC.out j hjk
              · obtain rfl : j = k := by omega
                exact HC1.out⟩
          case measure => simp [intOf]; omega
        · rw [moreR_neg h1] at HM
          have hfz := fin_bad (n0 := n0) (least := 65536) hlt h1
          have HZ := hid' hfz
          clear hfz h1 hc hfa
          go_wp2_with (go_at_call 151; refine (HM.out _).mono ?_; rintro e w' ⟨rfl, rfl⟩)
          go_ret2
          exact ⟨by rw [HF.out, HZ.out] <;> rfl, rfl⟩
      · obtain rfl : k = 3 := by omega
        have hfb : fa s n0 3 < 8388608 := by simp at hfa; omega
        have hbd := fin_badN (n0 := n0) (least := 65536) HCC.out
        have hgd := fin_good (n0 := n0) (least := 65536) HCC.out
        unfold badN at hbd hgd
        have HBD := hid' hbd
        have HGD := hid' hgd
        clear hbd hgd hc hfa
        generalize fa s n0 3 = a at *
        go_wp2
        all_goals
          go_ret2
          first
            | exact ⟨by rw [HF.out, HBD.out (by omega)] <;> rfl, rfl⟩
            | exact ⟨by rw [HF.out, HGD.out (by omega)] <;> rfl, rfl⟩
  · have hf : firstR s = (0, 0) := by unfold firstR; rw [if_neg h1, if_neg h2, if_neg h3, if_neg h4]
    rw [← hgg] at hgs hb h1 h2 h3 h4
    rw [hf]
    have h5 : g < 192 ∨ 248 ≤ g := by omega
    clear hf hg hgg h2 h3 h4
    rcases h5 with h5 | h5
    all_goals
      go_enter Tryz.func117, Tryz.ntmps117
      go_wp2
      go_ret2
      exact ⟨rfl, rfl⟩
end Go.Proofs.YtockkjhciojgbaaGreatDoor
/- SignSt -/
/- The signs of a text: the reference's row of them, and whether it has one, walked. No condition. -/
namespace Go.Proofs.YtockkjhciojgbaaGreatDoor
set_option maxRecDepth 100000
set_option linter.unusedSimpArgs false
open Go.RowKit
set_option linter.unusedVariables false
set_option linter.unusedSimpArgs false

theorem sSt_bd (s : ByteArray) : ∀ k, (sSt s k).2 ≤ s.size + 4 := by
  intro k
  induction k with
  | zero => exact Nat.zero_le _
  | succ k ih =>
    show (sStep s (sSt s k)).2 ≤ _
    unfold sStep
    split
    · have := sgW_pos s (sSt s k).2
      show (sSt s k).2 + _ ≤ _
      omega
    · exact ih
theorem sSt_next {s : ByteArray} {k : Nat} (h : (sSt s k).2 < s.size) : sSt s (k + 1) = ((sSt s k).1 ++ [sgN s (sSt s k).2], (sSt s k).2 + sgW s (sSt s k).2) := by
  show sStep s (sSt s k) = _
  unfold sStep; rw [if_pos h]
def iV (n : Int) : Value := .int .i64 n
theorem intCells (l : List Int) (u : Value) (hu : u ∈ l.map iV) : u.oneCell' = true := by
  obtain ⟨y, _, rfl⟩ := List.mem_map.1 hu; rfl
set_option maxHeartbeats 4000000 in
theorem ref04_Signs (s : ByteArray) (w : World) (hs : s.size ≤ 200000) :
    Calls Tryz.prog 73 #[.string s] w fun e w' => ∃ v, e = .returned v ∧ w'.ownsRow w.heap.size 3 1 v (signs s).length ((signs s).map iV) ∧ Below w.heap.size w w' := by
  have hs' : s.size ≤ 9223372036854775807 := by omega
  have HL0 := hid' (bel_alloc (bel_refl w) (.cells #[] 3))
  have HO0 := hid' (World.ownsRow_lit (e := 3) (base := w.heap.size) (size := 1) w #[] 0 (Nat.le_refl _) (by unfold maxLen; omega) (by simp))
  go_enter Tryz.func73, Tryz.ntmps73
  go_wp2
  go_loopw [3, 4] (fun v3 v4 wr => ∃ k : Nat, v4 = .int .i64 ((sSt s k).2 : Int) ∧ (sSt s k).1.length = k ∧ wr.ownsRow w.heap.size 3 1 v3 k ((sSt s k).1.map iV) ∧ Below w.heap.size w wr) (fun _ v4 _ => s.size - (intOf v4).toNat)
  case atStart => exact ⟨0, rfl, rfl, HO0.out, HL0.out⟩
  case round =>
    obtain ⟨k, rfl, hlen, hO, hL⟩ := hrel
    have hbd := sSt_bd s k
    have hkk := (sSt_le s k).1
    obtain ⟨p, hp⟩ : ∃ p, p = (sSt s k).2 := ⟨_, rfl⟩
    have HO := hid' hO
    have HL := hid' hL
    have HLEN := hid' hlen
    have HP := hid' hp
    rw [← hp] at hbd hkk ⊢
    rw [hlen] at hkk
    have hws := hL.size
    clear hO hL hlen
    by_cases hlt : p < s.size
    · have hnx := sSt_next (s := s) (k := k) (by rw [← hp]; exact hlt)
      rw [← hp] at hnx
      have HNX := hid' hnx
      have hfr := firstR_tail hlt
      have hext : (s.extract p s.size).size ≤ maxLen := by rw [ByteArray.size_extract]; unfold maxLen; omega
      have hex0 : 0 < (s.extract p s.size).size := by rw [ByteArray.size_extract]; omega
      have HF := hid' (fun W => ref04_First (s.extract p s.size) W hext hex0)
      have hpi : (p : Int) ≤ (s.size : Int) := by omega
      have hlti : (p : Int) < (s.size : Int) := by omega
      have h8 : (k + 1) * 8 ≤ 140737488355328 := by omega
      have hbase : w.heap.size ≤ wr.heap.size := hws
      clear hp hext hex0 hnx
      by_cases hst : strayAt s p = true
      · have hw1 := stray_w hst
        have hn1 : sgN s p = -(gb s p : Int) - 1 := by unfold sgN; rw [if_pos hst]
        rw [hfr, if_pos hst] at HF
        have hg := gb_eq s p hlt
        have hgl := gb_lt s p
        have hgs : (s[p]'hlt).toNat = gb s p := hg.symm
        obtain ⟨g, hgg⟩ : ∃ g, g = gb s p := ⟨_, rfl⟩
        rw [← hgg] at hgs hgl hn1
        rw [hw1] at HNX
        rw [hn1] at HNX
        have hone := hid' (show ∀ u ∈ [(.int .i64 (-(g : Int) - 1) : Value)], u.oneCell' = true by intro u hu; rw [List.mem_singleton] at hu; subst hu; rfl)
        clear hw1 hn1 hg hgg hfr hst
        go_wp2_with fail
        refine (HF.out _).mono ?_
        rintro e w' ⟨rfl, rfl⟩
        go_wp2_with (at_builtin; (refine ap_cells w.heap.size rfl (.tmp 27) (.tmp 29) 99 3 (.int .i64 0) 1 8 rfl (by kernel_rfl) (by kernel_rfl) rfl (by decide) (by decide) _ k ((sSt s k).1.map iV) [.int .i64 (-(g : Int) - 1)] rfl (by rfl) rfl hone.out HO.out hbase h8 ?_); intro v1 w3 hown hg hat)
        go_roundw
        case rel => exact ⟨k + 1, by rw [HNX.out] <;> first | rfl | go_num, by rw [HNX.out]; simp [HLEN.out], by rw [HNX.out, List.map_append]; exact hown, bel_mod HL.out (Mod.of_grown hg) (fun j hj h => by have := own_base' HO.out j h; omega)⟩
        case measure => first | (simp [intOf]; done) | (simp [intOf]; omega)
      · rw [hfr, if_neg hst] at HF
        have hsw := sgW_pos s p
        have hn1 : sgN s p = ((Utf8.decode s p).1 : Int) := by unfold sgN; rw [if_neg hst]
        have hdl := dec_lt s p
        have hw1 : sgW s p = (Utf8.decode s p).2 := rfl
        rw [hn1] at HNX
        rw [hw1] at HNX hsw
        obtain ⟨d, hd⟩ : ∃ d, d = (Utf8.decode s p).1 := ⟨_, rfl⟩
        obtain ⟨q, hq⟩ : ∃ q, q = (Utf8.decode s p).2 := ⟨_, rfl⟩
        rw [← hd] at hdl
        rw [← hq] at hsw
        rw [← hd, ← hq] at HF HNX
        have hq0 : ((q : Int) == 0) = false := by rw [beq_eq_false_iff_ne]; omega
        have hone := hid' (show ∀ u ∈ [(.int .i64 (d : Int) : Value)], u.oneCell' = true by intro u hu; rw [List.mem_singleton] at hu; subst hu; rfl)
        clear hw1 hn1 hfr hst hd hq
        go_wp2_with fail
        refine (HF.out _).mono ?_
        rintro e w' ⟨rfl, rfl⟩
        go_wp2_with (at_builtin; (refine ap_cells w.heap.size rfl (.tmp 27) (.tmp 29) 99 3 (.int .i64 0) 1 8 rfl (by kernel_rfl) (by kernel_rfl) rfl (by decide) (by decide) _ k ((sSt s k).1.map iV) [.int .i64 (d : Int)] rfl (by rfl) rfl hone.out HO.out hbase h8 ?_); intro v1 w3 hown hg hat)
        go_roundw
        case rel => exact ⟨k + 1, by rw [HNX.out] <;> first | rfl | go_num, by rw [HNX.out]; simp [HLEN.out], by rw [HNX.out, List.map_append]; exact hown, bel_mod HL.out (Mod.of_grown hg) (fun j hj h => by have := own_base' HO.out j h; omega)⟩
        case measure => first | (simp [intOf]; done) | (simp [intOf]; omega)
    · have he := sSt_end (s := s) (k := k) (by rw [← hp]; exact hlt)
      have hO := HO.out
      have hk2 : (signs s).length = k := by rw [← he]; exact HLEN.out
      rw [he] at hO
      rw [← hk2] at hO
      have HO2 := hid' hO
      clear he hO hk2
      go_wp2
      go_ret
      exact ⟨_, rfl, HO2.out, HL.out⟩
theorem hasB_yes {s : ByteArray} {n : Int} (h : n ∈ signs s) (h0 : 0 ≤ n) : hasB s n = true := by unfold hasB; rw [decide_eq_true_iff]; exact ⟨h, h0⟩
end Go.Proofs.YtockkjhciojgbaaGreatDoor
