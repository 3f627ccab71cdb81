
/- Texts in marks: what they are, and back: the plain law. No program. -/
import Derived.Test.YtioaijjmialdoaaDoorSignPure
import Derived.Lib.MapLaws
import Derived.Lib.RuneBytes
namespace Go.Proofs.YtioaijjmialdoaaDoor
set_option maxRecDepth 100000
set_option linter.unusedSimpArgs false
set_option linter.unusedVariables false
set_option linter.unusedSimpArgs false

/-! ### digits of 16 -/
def hexD (d : Nat) : UInt8 := if d < 10 then UInt8.ofNat (48 + d) else UInt8.ofNat (87 + d)
def hexL (n : Nat) : List UInt8 := if h : n < 16 then [hexD n] else hexL (n / 16) ++ [hexD (n % 16)]
decreasing_by omega
theorem hexL_lt {n : Nat} (h : n < 16) : hexL n = [hexD n] := by rw [hexL]; simp [h]
theorem hexL_ge {n : Nat} (h : ¬ n < 16) : hexL n = hexL (n / 16) ++ [hexD (n % 16)] := by rw [hexL]; simp [h]
theorem hexL_len (k : Nat) : ∀ n, n < 16 ^ (k + 1) → (hexL n).length ≤ k + 1 := by
  induction k with
  | zero => intro n h; rw [hexL_lt (by omega)]; simp
  | succ k ih =>
    intro n h
    by_cases hn : n < 16
    · rw [hexL_lt hn]; simp
    · rw [hexL_ge hn, List.length_append, List.length_singleton]
      have := ih (n / 16) (by rw [Nat.pow_succ] at h; omega)
      omega
theorem hexL_pos (n : Nat) : 0 < (hexL n).length := by rw [hexL]; split <;> simp
theorem hexD_nat {d : Nat} (h : d < 16) : (hexD d).toNat = if d < 10 then 48 + d else 87 + d := by
  unfold hexD
  split
  · simp; omega
  · simp; omega
/-- a digit of 16, if it is one -/
def hexV (c : UInt8) : Option Nat :=
  if 48 ≤ c.toNat ∧ c.toNat ≤ 57 then some (c.toNat - 48)
  else if 97 ≤ (c ||| 32).toNat ∧ (c ||| 32).toNat ≤ 102 then some ((c ||| 32).toNat - 87) else none
theorem hexV_D {d : Nat} (h : d < 16) : hexV (hexD d) = some d := by
  have : ∀ d : Fin 16, hexV (hexD d.val) = some d.val := by decide
  exact this ⟨d, h⟩
theorem hexV_lt {c : UInt8} {d : Nat} (h : hexV c = some d) : d < 16 := by
  unfold hexV at h
  split at h
  · have := Option.some.inj h; omega
  · split at h
    · have := Option.some.inj h; omega
    · cases h
/-- the number of digits of 16, if these are such and it is no greater -/
def pu (mx n : Nat) : List UInt8 → Option Nat
  | [] => some n
  | c :: l => match hexV c with
    | none => none
    | some d => if mx < n * 16 + d then none else pu mx (n * 16 + d) l
def puS (mx : Nat) (l : List UInt8) : Option Nat := if l = [] then none else pu mx 0 l
theorem pu_app (mx : Nat) (a b : List UInt8) : ∀ n, pu mx n (a ++ b) = (pu mx n a).bind fun m => pu mx m b := by
  induction a with
  | nil => intro n; rfl
  | cons c a ih =>
    intro n
    simp only [List.cons_append, pu]
    cases hexV c with
    | none => rfl
    | some d =>
      simp only
      split
      · rfl
      · exact ih _
theorem pu_hex (mx : Nat) : ∀ n, n ≤ mx → pu mx 0 (hexL n) = some n := by
  intro n
  induction n using Nat.strongRecOn with
  | ind n ih =>
    intro h
    by_cases hn : n < 16
    · rw [hexL_lt hn]
      simp only [pu, hexV_D hn]
      rw [if_neg (by omega)]
      simp
    · rw [hexL_ge hn, pu_app, ih (n / 16) (by omega) (by omega)]
      simp only [Option.bind_some, pu, hexV_D (show n % 16 < 16 by omega)]
      rw [if_neg (by omega)]
      congr 1; omega
theorem puS_hex {mx n : Nat} (h : n ≤ mx) : puS mx (hexL n) = some n := by
  unfold puS
  rw [if_neg (fun e => by have := hexL_pos n; rw [e] at this; simp at this)]
  exact pu_hex mx n h
theorem pu_le {mx : Nat} : ∀ {l : List UInt8} {n m : Nat}, n ≤ mx → pu mx n l = some m → m ≤ mx
  | [], n, m, hn, h => by simp [pu] at h; omega
  | c :: l, n, m, hn, h => by
    simp only [pu] at h
    cases hc : hexV c with
    | none => rw [hc] at h; cases h
    | some d =>
      rw [hc] at h
      simp only at h
      split at h
      · cases h
      · exact pu_le (by omega) h
theorem puS_le {mx : Nat} {l : List UInt8} {m : Nat} (h : puS mx l = some m) : m ≤ mx := by
  unfold puS at h
  split at h
  · cases h
  · exact pu_le (Nat.zero_le _) h
theorem hexL_mem {n : Nat} : ∀ c ∈ hexL n, ∃ d, d < 16 ∧ c = hexD d := by
  induction n using Nat.strongRecOn with
  | ind n ih =>
    intro c hc
    by_cases hn : n < 16
    · rw [hexL_lt hn] at hc
      exact ⟨n, hn, by simpa using hc⟩
    · rw [hexL_ge hn] at hc
      rcases List.mem_append.1 hc with h | h
      · exact ih _ (by omega) c h
      · exact ⟨n % 16, by omega, by simpa using h⟩
theorem hexD_plain {d : Nat} (h : d < 16) : hexD d ≠ 125 ∧ 32 ≤ (hexD d).toNat ∧ (hexD d).toNat ≤ 126 := by
  have : ∀ d : Fin 16, hexD d.val ≠ 125 ∧ 32 ≤ (hexD d.val).toNat ∧ (hexD d.val).toNat ≤ 126 := by decide
  exact this ⟨d, h⟩

/-! ### a text in marks -/
def qOne (n : Int) : List UInt8 :=
  if n < 0 then [92, 120] ++ hexL (-n - 1).toNat
  else if n = 34 ∨ n = 92 then [92, UInt8.ofNat n.toNat]
  else if n < 32 ∨ 126 < n then [92, 117, 123] ++ hexL n.toNat ++ [125]
  else [UInt8.ofNat n.toNat]
def qMid (l : List Int) : List UInt8 := l.flatMap qOne
def quoteP (s : ByteArray) : List UInt8 := [34] ++ qMid (signs s) ++ [34]
theorem qMid_snoc (l : List Int) (n : Int) : qMid (l ++ [n]) = qMid l ++ qOne n := by unfold qMid; simp
theorem qOne_len {n : Int} (h : -256 ≤ n ∧ n ≤ 1114111) : (qOne n).length ≤ 12 ∧ 0 < (qOne n).length := by
  unfold qOne
  split
  · have := hexL_len 2 (-n - 1).toNat (by omega)
    simp only [List.length_append, List.length_cons, List.length_nil]; omega
  · split
    · simp
    · split
      · have := hexL_len 5 n.toNat (by omega)
        simp only [List.length_append, List.length_cons, List.length_nil]; omega
      · simp
theorem dec_le (s : ByteArray) (i : Nat) : (Utf8.decode s i).1 ≤ 1114111 := by
  rw [← Lib.decodeL_drop]
  exact Lib.decodeL_rune _
theorem sgN_bd (s : ByteArray) (i : Nat) : -256 ≤ sgN s i ∧ sgN s i ≤ 1114111 := by
  unfold sgN
  split
  · have := gb_lt s i; omega
  · have := dec_le s i; omega
theorem sSt_mem (s : ByteArray) : ∀ k, ∀ n ∈ (sSt s k).1, -256 ≤ n ∧ n ≤ 1114111 := by
  intro k
  induction k with
  | zero => intro n hn; cases hn
  | succ k ih =>
    show ∀ n ∈ (sStep s (sSt s k)).1, _
    unfold sStep
    split
    · intro n hn
      rcases List.mem_append.1 hn with h | h
      · exact ih n h
      · rw [List.mem_singleton] at h; subst h; exact sgN_bd s _
    · exact ih
theorem qMid_len {l : List Int} (h : ∀ n ∈ l, -256 ≤ n ∧ n ≤ 1114111) : (qMid l).length ≤ 12 * l.length := by
  induction l with
  | nil => simp [qMid]
  | cons n l ih =>
    have h1 := (qOne_len (h n (List.mem_cons_self ..))).1
    have h2 := ih (fun x hx => h x (List.mem_cons_of_mem _ hx))
    unfold qMid at h2 ⊢
    simp only [List.flatMap_cons, List.length_append, List.length_cons]
    omega
theorem quoteP_len (s : ByteArray) : (quoteP s).length ≤ 12 * s.size + 2 := by
  have h1 := qMid_len (sSt_mem s s.size)
  have h2 := signs_len s
  unfold signs at h2
  unfold quoteP signs
  simp only [List.length_append, List.length_cons, List.length_nil]
  omega
/-- all signs of a text in marks are from 32 to 126 -/
theorem quoteP_plain (s : ByteArray) : ∀ c ∈ quoteP s, 32 ≤ c.toNat ∧ c.toNat ≤ 126 := by
  have hq : ∀ n : Int, ∀ c ∈ qOne n, 32 ≤ c.toNat ∧ c.toNat ≤ 126 := by
    intro n c hc
    unfold qOne at hc
    split at hc
    · rcases List.mem_append.1 hc with h | h
      · simp at h; rcases h with rfl | rfl <;> decide
      · obtain ⟨d, hd, rfl⟩ := hexL_mem c h; exact (hexD_plain hd).2
    · split at hc
      · rename_i h34
        simp at hc
        rcases hc with rfl | rfl
        · decide
        · rcases h34 with h | h <;> rw [h] <;> decide
      · split at hc
        · rcases List.mem_append.1 hc with h | h
          · rcases List.mem_append.1 h with h | h
            · simp at h; rcases h with rfl | rfl | rfl <;> decide
            · obtain ⟨d, hd, rfl⟩ := hexL_mem c h; exact (hexD_plain hd).2
          · simp at h; subst h; decide
        · rename_i h1 h2 h3
          simp at hc
          subst hc
          have : (UInt8.ofNat n.toNat).toNat = n.toNat := by simp; omega
          rw [this]; omega
  intro c hc
  unfold quoteP at hc
  rcases List.mem_append.1 hc with h | h
  · rcases List.mem_append.1 h with h | h
    · simp at h; subst h; decide
    · unfold qMid at h
      obtain ⟨n, _, hn⟩ := List.mem_flatMap.1 h
      exact hq n c hn
  · simp at h; subst h; decide

/-! ### what stands at the front of what is between marks -/
def pieceP (l : List UInt8) : List UInt8 × Nat :=
  if l.getD 0 0 ≠ 92 then (l.take 1, 1)
  else if 1 < l.length ∧ (l.getD 1 0 = 34 ∨ l.getD 1 0 = 92) then ((l.drop 1).take 1, 2)
  else if 3 < l.length ∧ l.getD 1 0 = 120 then
    (match puS 255 ((l.drop 2).take 2) with | some n => ([UInt8.ofNat n], 4) | none => ([], 0))
  else if l.take 3 = [92, 117, 123] then
    (if 125 ∈ l then (match puS 2147483647 ((l.drop 3).take (l.idxOf 125 - 3)) with | some n => (Lib.encodeRune n, l.idxOf 125 + 1) | none => ([], 0)) else ([], 0))
  else ([], 0)
def unqGo : Nat → List UInt8 → List UInt8 → Option (List UInt8)
  | 0, acc, l => if l = [] then some acc else none
  | f + 1, acc, l => if l = [] then some acc else if (pieceP l).2 = 0 then none else unqGo f (acc ++ (pieceP l).1) (l.drop (pieceP l).2)
theorem idx_front {a b : List UInt8} (h : 125 ∉ a) : (a ++ 125 :: b).idxOf 125 = a.length := by
  induction a with
  | nil => simp
  | cons c a ih =>
    have hc : (c == 125) = false := by rw [beq_eq_false_iff_ne]; rintro rfl; exact h (List.mem_cons_self ..)
    rw [List.cons_append, List.idxOf_cons, hc, ih (fun hm => h (List.mem_cons_of_mem _ hm))]
    rfl
theorem hexL_no125 (n : Nat) : 125 ∉ hexL n := fun h => by
  obtain ⟨d, hd, e⟩ := hexL_mem _ h
  exact (hexD_plain hd).1 e.symm
theorem ofNat_ne {n : Nat} (h : n < 256) {c : Nat} (hc : c < 256) (hne : n ≠ c) : UInt8.ofNat n ≠ UInt8.ofNat c := fun e => by
  have := congrArg UInt8.toNat e
  simp at this; omega
theorem piece_stray {n : Int} (h1 : -256 ≤ n) (h2 : n ≤ -129) (rest : List UInt8) : pieceP (qOne n ++ rest) = ([UInt8.ofNat (-n - 1).toNat], (qOne n).length) := by
  have hb : (-n - 1).toNat < 256 ∧ 16 ≤ (-n - 1).toNat := by omega
  obtain ⟨m, hm⟩ : ∃ m, m = (-n - 1).toNat := ⟨_, rfl⟩
  rw [← hm] at hb ⊢
  have hh : hexL m = [hexD (m / 16), hexD (m % 16)] := by rw [hexL_ge (by omega), hexL_lt (by omega)]; rfl
  have hq : qOne n = [92, 120, hexD (m / 16), hexD (m % 16)] := by unfold qOne; rw [if_pos (by omega), ← hm, hh]; rfl
  rw [hq]
  unfold pieceP
  simp only [List.cons_append, List.nil_append, List.getD_cons_zero, List.getD_cons_succ, List.length_cons]
  rw [if_neg (by decide), if_neg (by intro h; rcases h.2 with h | h <;> exact absurd h (by decide)), if_pos ⟨by omega, by trivial⟩]
  have hp := puS_hex (mx := 255) (n := m) (by omega)
  rw [hh] at hp
  show (match puS 255 [hexD (m / 16), hexD (m % 16)] with | some n => ([UInt8.ofNat n], 4) | none => ([], 0)) = _
  rw [hp]
  rfl
theorem piece_mark {n : Int} (h : n = 34 ∨ n = 92) (rest : List UInt8) : pieceP (qOne n ++ rest) = ([UInt8.ofNat n.toNat], (qOne n).length) := by
  have hq : qOne n = [92, UInt8.ofNat n.toNat] := by unfold qOne; rw [if_neg (by omega), if_pos h]
  rw [hq]
  unfold pieceP
  simp only [List.cons_append, List.nil_append, List.getD_cons_zero, List.getD_cons_succ, List.length_cons]
  rw [if_neg (by decide), if_pos ⟨by omega, by rcases h with h | h <;> rw [h] <;> simp⟩]
  rfl
theorem piece_plain {n : Int} (h0 : 32 ≤ n) (h1 : n ≤ 126) (h2 : n ≠ 34) (h3 : n ≠ 92) (rest : List UInt8) : pieceP (qOne n ++ rest) = ([UInt8.ofNat n.toNat], (qOne n).length) := by
  have hq : qOne n = [UInt8.ofNat n.toNat] := by unfold qOne; rw [if_neg (by omega), if_neg (by omega), if_neg (by omega)]
  rw [hq]
  unfold pieceP
  simp only [List.cons_append, List.nil_append, List.getD_cons_zero]
  have : UInt8.ofNat n.toNat ≠ 92 := by
    have := ofNat_ne (n := n.toNat) (c := 92) (by omega) (by omega) (by omega)
    exact this
  rw [if_pos this]
  rfl
theorem piece_uni {n : Int} (h0 : 0 ≤ n) (h1 : n < 32 ∨ 126 < n) (h2 : n ≤ 1114111) (rest : List UInt8) : pieceP (qOne n ++ rest) = (Lib.encodeRune n, (qOne n).length) := by
  have hq : qOne n = [92, 117, 123] ++ hexL n.toNat ++ [125] := by unfold qOne; rw [if_neg (by omega), if_neg (by omega), if_pos h1]
  have hl : qOne n ++ rest = ([92, 117, 123] ++ hexL n.toNat) ++ 125 :: rest := by rw [hq]; simp
  have hi : (qOne n ++ rest).idxOf 125 = 3 + (hexL n.toNat).length := by
    rw [hl, idx_front]
    · simp; omega
    · intro h
      rcases List.mem_append.1 h with h | h
      · simp at h
      · exact hexL_no125 _ h
  have hmem : (125 : UInt8) ∈ qOne n ++ rest := by rw [hl]; simp
  have hlen : (qOne n).length = 3 + (hexL n.toNat).length + 1 := by rw [hq]; simp; omega
  have hd : ((qOne n ++ rest).drop 3).take ((qOne n ++ rest).idxOf 125 - 3) = hexL n.toNat := by
    rw [hi, hl, show 3 + (hexL n.toNat).length - 3 = (hexL n.toNat).length by omega]
    show ((hexL n.toNat) ++ 125 :: rest).take _ = _
    rw [List.take_left]
  have ht3 : (qOne n ++ rest).take 3 = [92, 117, 123] := by rw [hl]; rfl
  have g0 : (qOne n ++ rest).getD 0 0 = 92 := by rw [hl]; rfl
  have g1 : (qOne n ++ rest).getD 1 0 = 117 := by rw [hl]; rfl
  unfold pieceP
  rw [g0, g1, if_neg (by decide), if_neg (by intro h; rcases h.2 with h | h <;> exact absurd h (by decide)), if_neg (by intro h; exact absurd h.2 (by decide)), if_pos ht3, if_pos hmem, hd, puS_hex (by omega), hi, hlen]
  simp only
  congr 2
  omega
end Go.Proofs.YtioaijjmialdoaaDoor
