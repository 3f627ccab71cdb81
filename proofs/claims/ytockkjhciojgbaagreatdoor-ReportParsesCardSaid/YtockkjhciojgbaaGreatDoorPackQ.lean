/- Several texts as one. No condition beyond each one's own. -/
import Derived.Test.YtockkjhciojgbaaGreatDoorPackS
import Derived.Lib.MapLaws
import Derived.Lib.RuneBytes
import Derived.Lib.TrimAscii
import Derived.Test.YtockkjhciojgbaaGreatDoorProg
import Derived.Laws.BitsAllLaws
import Derived.Test.YtockkjhciojgbaaGreatDoorPackA
import Derived.Test.YtockkjhciojgbaaGreatDoorShelf
import Derived.Shelf.Strings.BuilderK
import Derived.Lib.FrozenHead2
import Derived.Test.YtockkjhciojgbaaGreatDoorSignHas
/- QuotePure -/
/- Texts in marks: what they are, and back: the plain law. No program. -/
namespace Go.Proofs.YtockkjhciojgbaaGreatDoor
set_option maxRecDepth 100000
set_option linter.unusedSimpArgs false
set_option linter.unusedVariables false
set_option linter.unusedSimpArgs false

/-! ### digits of 16 -/
def hexD (d : Nat) : UInt8 := if d < 10 then UInt8.ofNat (48 + d) else UInt8.ofNat (87 + d)
def hexL (n : Nat) : List UInt8 := if h : n < 16 then [hexD n] else hexL (n / 16) ++ [hexD (n % 16)]
decreasing_by omega
theorem hexL_lt {n : Nat} (h : n < 16) : hexL n = [hexD n] := by rw [hexL]; simp [h]
theorem hexL_ge {n : Nat} (h : ¬ n < 16) : hexL n = hexL (n / 16) ++ [hexD (n % 16)] := by rw [hexL]; simp [h]
theorem hexL_len (k : Nat) : ∀ n, n < 16 ^ (k + 1) → (hexL n).length ≤ k + 1 := by
  induction k with
  | zero => intro n h; rw [hexL_lt (by omega)]; simp
  | succ k ih =>
    intro n h
    by_cases hn : n < 16
    · rw [hexL_lt hn]; simp
    · rw [hexL_ge hn, List.length_append, List.length_singleton]
      have := ih (n / 16) (by rw [Nat.pow_succ] at h; omega)
      omega
theorem hexL_pos (n : Nat) : 0 < (hexL n).length := by rw [hexL]; split <;> simp
theorem hexD_nat {d : Nat} (h : d < 16) : (hexD d).toNat = if d < 10 then 48 + d else 87 + d := by
  unfold hexD
  split
  · simp; omega
  · simp; omega
/-- a digit of 16, if it is one -/
def hexV (c : UInt8) : Option Nat :=
  if 48 ≤ c.toNat ∧ c.toNat ≤ 57 then some (c.toNat - 48)
  else if 97 ≤ (c ||| 32).toNat ∧ (c ||| 32).toNat ≤ 102 then some ((c ||| 32).toNat - 87) else none
theorem hexV_D {d : Nat} (h : d < 16) : hexV (hexD d) = some d := by
  have : ∀ d : Fin 16, hexV (hexD d.val) = some d.val := by decide
  exact this ⟨d, h⟩
theorem hexV_lt {c : UInt8} {d : Nat} (h : hexV c = some d) : d < 16 := by
  unfold hexV at h
  split at h
  · have := Option.some.inj h; omega
  · split at h
    · have := Option.some.inj h; omega
    · cases h
/-- the number of digits of 16, if these are such and it is no greater -/
def pu (mx n : Nat) : List UInt8 → Option Nat
  | [] => some n
  | c :: l => match hexV c with
    | none => none
    | some d => if mx < n * 16 + d then none else pu mx (n * 16 + d) l
def puS (mx : Nat) (l : List UInt8) : Option Nat := if l = [] then none else pu mx 0 l
theorem pu_app (mx : Nat) (a b : List UInt8) : ∀ n, pu mx n (a ++ b) = (pu mx n a).bind fun m => pu mx m b := by
  induction a with
  | nil => intro n; rfl
  | cons c a ih =>
    intro n
    simp only [List.cons_append, pu]
    cases hexV c with
    | none => rfl
    | some d =>
      simp only
      split
      · rfl
      · exact ih _
theorem pu_hex (mx : Nat) : ∀ n, n ≤ mx → pu mx 0 (hexL n) = some n := by
  intro n
  induction n using Nat.strongRecOn with
  | ind n ih =>
    intro h
    by_cases hn : n < 16
    · rw [hexL_lt hn]
      simp only [pu, hexV_D hn]
      rw [if_neg (by omega)]
      simp
    · rw [hexL_ge hn, pu_app, ih (n / 16) (by omega) (by omega)]
      simp only [Option.bind_some, pu, hexV_D (show n % 16 < 16 by omega)]
      rw [if_neg (by omega)]
      congr 1; omega
theorem puS_hex {mx n : Nat} (h : n ≤ mx) : puS mx (hexL n) = some n := by
  unfold puS
  rw [if_neg (fun e => by have := hexL_pos n; rw [e] at this; simp at this)]
  exact pu_hex mx n h
theorem pu_le {mx : Nat} : ∀ {l : List UInt8} {n m : Nat}, n ≤ mx → pu mx n l = some m → m ≤ mx
  | [], n, m, hn, h => by simp [pu] at h; omega
  | c :: l, n, m, hn, h => by
    simp only [pu] at h
    cases hc : hexV c with
    | none => rw [hc] at h; cases h
    | some d =>
      rw [hc] at h
      simp only at h
      split at h
      · cases h
      · exact pu_le (by omega) h
theorem puS_le {mx : Nat} {l : List UInt8} {m : Nat} (h : puS mx l = some m) : m ≤ mx := by
  unfold puS at h
  split at h
  · cases h
  · exact pu_le (Nat.zero_le _) h
theorem hexL_mem {n : Nat} : ∀ c ∈ hexL n, ∃ d, d < 16 ∧ c = hexD d := by
  induction n using Nat.strongRecOn with
  | ind n ih =>
    intro c hc
    by_cases hn : n < 16
    · rw [hexL_lt hn] at hc
      exact ⟨n, hn, by simpa using hc⟩
    · rw [hexL_ge hn] at hc
      rcases List.mem_append.1 hc with h | h
      · exact ih _ (by omega) c h
      · exact ⟨n % 16, by omega, by simpa using h⟩
theorem hexD_plain {d : Nat} (h : d < 16) : hexD d ≠ 125 ∧ 32 ≤ (hexD d).toNat ∧ (hexD d).toNat ≤ 126 := by
  have : ∀ d : Fin 16, hexD d.val ≠ 125 ∧ 32 ≤ (hexD d.val).toNat ∧ (hexD d.val).toNat ≤ 126 := by decide
  exact this ⟨d, h⟩

/-! ### a text in marks -/
def qOne (n : Int) : List UInt8 :=
  if n < 0 then [92, 120] ++ hexL (-n - 1).toNat
  else if n = 34 ∨ n = 92 then [92, UInt8.ofNat n.toNat]
  else if n < 32 ∨ 126 < n then [92, 117, 123] ++ hexL n.toNat ++ [125]
  else [UInt8.ofNat n.toNat]
def qMid (l : List Int) : List UInt8 := l.flatMap qOne
def quoteP (s : ByteArray) : List UInt8 := [34] ++ qMid (signs s) ++ [34]
theorem qMid_snoc (l : List Int) (n : Int) : qMid (l ++ [n]) = qMid l ++ qOne n := by unfold qMid; simp
theorem qOne_len {n : Int} (h : -256 ≤ n ∧ n ≤ 1114111) : (qOne n).length ≤ 12 ∧ 0 < (qOne n).length := by
  unfold qOne
  split
  · have := hexL_len 2 (-n - 1).toNat (by omega)
    simp only [List.length_append, List.length_cons, List.length_nil]; omega
  · split
    · simp
    · split
      · have := hexL_len 5 n.toNat (by omega)
        simp only [List.length_append, List.length_cons, List.length_nil]; omega
      · simp
theorem dec_le (s : ByteArray) (i : Nat) : (Utf8.decode s i).1 ≤ 1114111 := by
  rw [← Lib.decodeL_drop]
  exact Lib.decodeL_rune _
theorem sgN_bd (s : ByteArray) (i : Nat) : -256 ≤ sgN s i ∧ sgN s i ≤ 1114111 := by
  unfold sgN
  split
  · have := gb_lt s i; omega
  · have := dec_le s i; omega
theorem sSt_mem (s : ByteArray) : ∀ k, ∀ n ∈ (sSt s k).1, -256 ≤ n ∧ n ≤ 1114111 := by
  intro k
  induction k with
  | zero => intro n hn; cases hn
  | succ k ih =>
    show ∀ n ∈ (sStep s (sSt s k)).1, _
    unfold sStep
    split
    · intro n hn
      rcases List.mem_append.1 hn with h | h
      · exact ih n h
      · rw [List.mem_singleton] at h; subst h; exact sgN_bd s _
    · exact ih
theorem qMid_len {l : List Int} (h : ∀ n ∈ l, -256 ≤ n ∧ n ≤ 1114111) : (qMid l).length ≤ 12 * l.length := by
  induction l with
  | nil => simp [qMid]
  | cons n l ih =>
    have h1 := (qOne_len (h n (List.mem_cons_self ..))).1
    have h2 := ih (fun x hx => h x (List.mem_cons_of_mem _ hx))
    unfold qMid at h2 ⊢
    simp only [List.flatMap_cons, List.length_append, List.length_cons]
    omega
theorem quoteP_len (s : ByteArray) : (quoteP s).length ≤ 12 * s.size + 2 := by
  have h1 := qMid_len (sSt_mem s s.size)
  have h2 := signs_len s
  unfold signs at h2
  unfold quoteP signs
  simp only [List.length_append, List.length_cons, List.length_nil]
  omega
/-- all signs of a text in marks are from 32 to 126 -/
theorem quoteP_plain (s : ByteArray) : ∀ c ∈ quoteP s, 32 ≤ c.toNat ∧ c.toNat ≤ 126 := by
  have hq : ∀ n : Int, ∀ c ∈ qOne n, 32 ≤ c.toNat ∧ c.toNat ≤ 126 := by
    intro n c hc
    unfold qOne at hc
    split at hc
    · rcases List.mem_append.1 hc with h | h
      · simp at h; rcases h with rfl | rfl <;> decide
      · obtain ⟨d, hd, rfl⟩ := hexL_mem c h; exact (hexD_plain hd).2
    · split at hc
      · rename_i h34
        simp at hc
        rcases hc with rfl | rfl
        · decide
        · rcases h34 with h | h <;> rw [h] <;> decide
      · split at hc
        · rcases List.mem_append.1 hc with h | h
          · rcases List.mem_append.1 h with h | h
            · simp at h; rcases h with rfl | rfl | rfl <;> decide
            · obtain ⟨d, hd, rfl⟩ := hexL_mem c h; exact (hexD_plain hd).2
          · simp at h; subst h; decide
        · rename_i h1 h2 h3
          simp at hc
          subst hc
          have : (UInt8.ofNat n.toNat).toNat = n.toNat := by simp; omega
          rw [this]; omega
  intro c hc
  unfold quoteP at hc
  rcases List.mem_append.1 hc with h | h
  · rcases List.mem_append.1 h with h | h
    · simp at h; subst h; decide
    · unfold qMid at h
      obtain ⟨n, _, hn⟩ := List.mem_flatMap.1 h
      exact hq n c hn
  · simp at h; subst h; decide

/-! ### what stands at the front of what is between marks -/
def pieceP (l : List UInt8) : List UInt8 × Nat :=
  if l.getD 0 0 ≠ 92 then (l.take 1, 1)
  else if 1 < l.length ∧ (l.getD 1 0 = 34 ∨ l.getD 1 0 = 92) then ((l.drop 1).take 1, 2)
  else if 3 < l.length ∧ l.getD 1 0 = 120 then
    (match puS 255 ((l.drop 2).take 2) with | some n => ([UInt8.ofNat n], 4) | none => ([], 0))
  else if l.take 3 = [92, 117, 123] then
    (if 125 ∈ l then (match puS 2147483647 ((l.drop 3).take (l.idxOf 125 - 3)) with | some n => (Lib.encodeRune n, l.idxOf 125 + 1) | none => ([], 0)) else ([], 0))
  else ([], 0)
def unqGo : Nat → List UInt8 → List UInt8 → Option (List UInt8)
  | 0, acc, l => if l = [] then some acc else none
  | f + 1, acc, l => if l = [] then some acc else if (pieceP l).2 = 0 then none else unqGo f (acc ++ (pieceP l).1) (l.drop (pieceP l).2)
theorem idx_front {a b : List UInt8} (h : 125 ∉ a) : (a ++ 125 :: b).idxOf 125 = a.length := by
  induction a with
  | nil => simp
  | cons c a ih =>
    have hc : (c == 125) = false := by rw [beq_eq_false_iff_ne]; rintro rfl; exact h (List.mem_cons_self ..)
    rw [List.cons_append, List.idxOf_cons, hc, ih (fun hm => h (List.mem_cons_of_mem _ hm))]
    rfl
theorem hexL_no125 (n : Nat) : 125 ∉ hexL n := fun h => by
  obtain ⟨d, hd, e⟩ := hexL_mem _ h
  exact (hexD_plain hd).1 e.symm
theorem ofNat_ne {n : Nat} (h : n < 256) {c : Nat} (hc : c < 256) (hne : n ≠ c) : UInt8.ofNat n ≠ UInt8.ofNat c := fun e => by
  have := congrArg UInt8.toNat e
  simp at this; omega
theorem piece_stray {n : Int} (h1 : -256 ≤ n) (h2 : n ≤ -129) (rest : List UInt8) : pieceP (qOne n ++ rest) = ([UInt8.ofNat (-n - 1).toNat], (qOne n).length) := by
  have hb : (-n - 1).toNat < 256 ∧ 16 ≤ (-n - 1).toNat := by omega
  obtain ⟨m, hm⟩ : ∃ m, m = (-n - 1).toNat := ⟨_, rfl⟩
  rw [← hm] at hb ⊢
  have hh : hexL m = [hexD (m / 16), hexD (m % 16)] := by rw [hexL_ge (by omega), hexL_lt (by omega)]; rfl
  have hq : qOne n = [92, 120, hexD (m / 16), hexD (m % 16)] := by unfold qOne; rw [if_pos (by omega), ← hm, hh]; rfl
  rw [hq]
  unfold pieceP
  simp only [List.cons_append, List.nil_append, List.getD_cons_zero, List.getD_cons_succ, List.length_cons]
  rw [if_neg (by decide), if_neg (by intro h; rcases h.2 with h | h <;> exact absurd h (by decide)), if_pos ⟨by omega, by trivial⟩]
  have hp := puS_hex (mx := 255) (n := m) (by omega)
  rw [hh] at hp
  show (match puS 255 [hexD (m / 16), hexD (m % 16)] with | some n => ([UInt8.ofNat n], 4) | none => ([], 0)) = _
  rw [hp]
  rfl
theorem piece_mark {n : Int} (h : n = 34 ∨ n = 92) (rest : List UInt8) : pieceP (qOne n ++ rest) = ([UInt8.ofNat n.toNat], (qOne n).length) := by
  have hq : qOne n = [92, UInt8.ofNat n.toNat] := by unfold qOne; rw [if_neg (by omega), if_pos h]
  rw [hq]
  unfold pieceP
  simp only [List.cons_append, List.nil_append, List.getD_cons_zero, List.getD_cons_succ, List.length_cons]
  rw [if_neg (by decide), if_pos ⟨by omega, by rcases h with h | h <;> rw [h] <;> simp⟩]
  rfl
theorem piece_plain {n : Int} (h0 : 32 ≤ n) (h1 : n ≤ 126) (h2 : n ≠ 34) (h3 : n ≠ 92) (rest : List UInt8) : pieceP (qOne n ++ rest) = ([UInt8.ofNat n.toNat], (qOne n).length) := by
  have hq : qOne n = [UInt8.ofNat n.toNat] := by unfold qOne; rw [if_neg (by omega), if_neg (by omega), if_neg (by omega)]
  rw [hq]
  unfold pieceP
  simp only [List.cons_append, List.nil_append, List.getD_cons_zero]
  have : UInt8.ofNat n.toNat ≠ 92 := by
    have := ofNat_ne (n := n.toNat) (c := 92) (by omega) (by omega) (by omega)
    exact this
  rw [if_pos this]
  rfl
theorem piece_uni {n : Int} (h0 : 0 ≤ n) (h1 : n < 32 ∨ 126 < n) (h2 : n ≤ 1114111) (rest : List UInt8) : pieceP (qOne n ++ rest) = (Lib.encodeRune n, (qOne n).length) := by
  have hq : qOne n = [92, 117, 123] ++ hexL n.toNat ++ [125] := by unfold qOne; rw [if_neg (by omega), if_neg (by omega), if_pos h1]
  have hl : qOne n ++ rest = ([92, 117, 123] ++ hexL n.toNat) ++ 125 :: rest := by rw [hq]; simp
  have hi : (qOne n ++ rest).idxOf 125 = 3 + (hexL n.toNat).length := by
    rw [hl, idx_front]
    · simp; omega
    · intro h
      rcases List.mem_append.1 h with h | h
      · simp at h
      · exact hexL_no125 _ h
  have hmem : (125 : UInt8) ∈ qOne n ++ rest := by rw [hl]; simp
  have hlen : (qOne n).length = 3 + (hexL n.toNat).length + 1 := by rw [hq]; simp; omega
  have hd : ((qOne n ++ rest).drop 3).take ((qOne n ++ rest).idxOf 125 - 3) = hexL n.toNat := by
    rw [hi, hl, show 3 + (hexL n.toNat).length - 3 = (hexL n.toNat).length by omega]
    show ((hexL n.toNat) ++ 125 :: rest).take _ = _
    rw [List.take_left]
  have ht3 : (qOne n ++ rest).take 3 = [92, 117, 123] := by rw [hl]; rfl
  have g0 : (qOne n ++ rest).getD 0 0 = 92 := by rw [hl]; rfl
  have g1 : (qOne n ++ rest).getD 1 0 = 117 := by rw [hl]; rfl
  unfold pieceP
  rw [g0, g1, if_neg (by decide), if_neg (by intro h; rcases h.2 with h | h <;> exact absurd h (by decide)), if_neg (by intro h; exact absurd h.2 (by decide)), if_pos ht3, if_pos hmem, hd, puS_hex (by omega), hi, hlen]
  simp only
  congr 2
  omega
end Go.Proofs.YtockkjhciojgbaaGreatDoor
/- QuotePureB -/
/- Texts in marks: there and back: the plain law. No program. -/
namespace Go.Proofs.YtockkjhciojgbaaGreatDoor
set_option maxRecDepth 100000
set_option linter.unusedSimpArgs false
set_option linter.unusedVariables false
set_option linter.unusedSimpArgs false

theorem sSt_lenk (s : ByteArray) : ∀ k, k ≤ (signs s).length → (sSt s k).1.length = k := by
  intro k
  induction k with
  | zero => intro _; rfl
  | succ k ih =>
    intro hk
    have h := ih (by omega)
    by_cases hlt : (sSt s k).2 < s.size
    · show (sStep s (sSt s k)).1.length = k + 1
      unfold sStep
      rw [if_pos hlt]
      simp [h]
    · have := sSt_end hlt
      rw [this] at h
      omega
theorem signs_drop (s : ByteArray) {k : Nat} (hlt : (sSt s k).2 < s.size) (hk : (sSt s k).1.length = k) : (signs s).drop k = sgN s (sSt s k).2 :: (signs s).drop (k + 1) := by
  have hm := sgN_mem hlt
  have hks : k + 1 ≤ s.size := by
    have := (sSt_le s k).1
    omega
  obtain ⟨l, hl⟩ := sSt_more s (k + 1) (s.size - (k + 1))
  rw [show k + 1 + (s.size - (k + 1)) = s.size by omega] at hl
  have h1 : (sSt s (k + 1)).1 = (sSt s k).1 ++ [sgN s (sSt s k).2] := by
    show (sStep s (sSt s k)).1 = _
    unfold sStep; rw [if_pos hlt]
  have hs : signs s = ((sSt s k).1 ++ [sgN s (sSt s k).2]) ++ l := by unfold signs; rw [hl, h1]
  have h2 : ∀ (A : List Int) (x : Int), (A ++ [x] ++ l).drop A.length = x :: (A ++ [x] ++ l).drop (A.length + 1) := by
    intro A x
    rw [List.append_assoc, List.drop_left, ← List.append_assoc, show A.length + 1 = (A ++ [x]).length by simp, List.drop_left]
    rfl
  have h3 := h2 (sSt s k).1 (sgN s (sSt s k).2)
  rw [hk] at h3
  rw [hs]
  exact h3
def bL (s : ByteArray) : List UInt8 := s.data.toList
theorem bL_len (s : ByteArray) : (bL s).length = s.size := by unfold bL; rw [Array.length_toList]; rfl
theorem bL_get (s : ByteArray) (p : Nat) (h : p < s.size) : (bL s).drop p = UInt8.ofNat (gb s p) :: (bL s).drop (p + 1) := by
  have hl : p < (bL s).length := by rw [bL_len]; exact h
  rw [List.drop_eq_getElem_cons hl]
  congr 1
  rw [gb_eq s p h]
  simp
  rfl
/-- the bytes of one sign -/
theorem sign_bytes (s : ByteArray) (p : Nat) (h : p < s.size) (rest : List UInt8) :
    pieceP (qOne (sgN s p) ++ rest) = (((bL s).drop p).take (sgW s p), (qOne (sgN s p)).length) := by
  have hne : (bL s).drop p ≠ [] := by
    intro e
    have := congrArg List.length e
    rw [List.length_drop, bL_len] at this
    simp at this; omega
  have hdl := Lib.decodeL_drop s p
  by_cases hst : strayAt s p = true
  · have hn : sgN s p = -(gb s p : Int) - 1 := by unfold sgN; rw [if_pos hst]
    have hw := stray_w hst
    have hgl := gb_lt s p
    have hge : 128 ≤ gb s p := by
      apply Classical.byContradiction
      intro hlt
      have h1 := Lib.decodeL_ascii (UInt8.ofNat (gb s p)) ((bL s).drop (p + 1)) (by simp; omega)
      rw [← bL_get s p h] at h1
      unfold bL at h1
      rw [hdl] at h1
      unfold strayAt at hst
      rw [h1, beq_iff_eq] at hst
      have := congrArg Prod.fst hst
      simp at this
      omega
    rw [piece_stray (by rw [hn]; omega) (by rw [hn]; omega), hw, hn, bL_get s p h]
    congr 2
    congr 1
    omega
  · have hn : sgN s p = ((Utf8.decode s p).1 : Int) := by unfold sgN; rw [if_neg hst]
    have hw : sgW s p = (Utf8.decode s p).2 := rfl
    have hed := Lib.encode_decode ((bL s).drop p) hne (by
      show ¬ ((Lib.decodeL (s.data.toList.drop p)).1 = 65533 ∧ (Lib.decodeL (s.data.toList.drop p)).2 = 1)
      rw [hdl]
      rintro ⟨h1, h2⟩
      apply hst
      unfold strayAt
      rw [beq_iff_eq]
      exact Prod.ext h1 h2)
    unfold bL at hed ⊢
    rw [hdl, ← hn, ← hw] at hed
    have hle := dec_le s p
    rw [← hed]
    have hbd := sgN_bd s p
    have h0 : 0 ≤ sgN s p := by rw [hn]; omega
    have hone : sgN s p ≤ 127 → Lib.encodeRune (sgN s p) = [UInt8.ofNat (sgN s p).toNat] := fun h1 => by
      unfold Lib.encodeRune
      rw [Lib.encodeRuneZ_one h0 h1]
      rfl
    by_cases h34 : sgN s p = 34 ∨ sgN s p = 92
    · rw [piece_mark h34, hone (by omega)]
    · by_cases hpl : sgN s p < 32 ∨ 126 < sgN s p
      · rw [piece_uni h0 hpl hbd.2]
      · rw [piece_plain (by omega) (by omega) (by omega) (by omega), hone (by omega)]
theorem unq_back (s : ByteArray) : ∀ d k f, (signs s).length = k + d → d ≤ f → unqGo f ((bL s).take (sSt s k).2) (qMid ((signs s).drop k)) = some (bL s) := by
  intro d
  induction d with
  | zero =>
    intro k f hk hf
    have hnl : ¬ (sSt s k).2 < s.size := by
      intro hlt
      have h1 := signs_drop s hlt (sSt_lenk s k (by omega))
      have h2 := congrArg List.length h1
      rw [List.length_drop] at h2
      simp at h2; omega
    have hd : (signs s).drop k = [] := by rw [List.drop_of_length_le (by omega)]
    rw [hd]
    have ht : (bL s).take (sSt s k).2 = bL s := List.take_of_length_le (by rw [bL_len]; omega)
    rw [ht]
    cases f with
    | zero => rfl
    | succ f => rfl
  | succ d ih =>
    intro k f hk hf
    have hlk := sSt_lenk s k (by omega)
    have hlt : (sSt s k).2 < s.size := by
      apply Classical.byContradiction
      intro h
      have := sSt_end h
      rw [this] at hlk
      omega
    obtain ⟨f, rfl⟩ : ∃ g, f = g + 1 := ⟨f - 1, by omega⟩
    have hd := signs_drop s hlt hlk
    have hm : qMid ((signs s).drop k) = qOne (sgN s (sSt s k).2) ++ qMid ((signs s).drop (k + 1)) := by rw [hd]; rfl
    have hpos := (qOne_len (sgN_bd s (sSt s k).2)).2
    rw [hm]
    unfold unqGo
    have hne : qOne (sgN s (sSt s k).2) ++ qMid ((signs s).drop (k + 1)) ≠ [] := by
      intro e
      have := congrArg List.length e
      rw [List.length_append, List.length_nil] at this
      omega
    rw [if_neg hne, sign_bytes s _ hlt]
    simp only
    rw [if_neg (show ¬ (qOne (sgN s (sSt s k).2)).length = 0 by omega), List.drop_left]
    have hnext : (bL s).take (sSt s k).2 ++ ((bL s).drop (sSt s k).2).take (sgW s (sSt s k).2) = (bL s).take (sSt s (k + 1)).2 := by
      have h2 : (sSt s (k + 1)).2 = (sSt s k).2 + sgW s (sSt s k).2 := by
        show (sStep s (sSt s k)).2 = _
        unfold sStep; rw [if_pos hlt]
      rw [h2, List.take_add]
    rw [hnext]
    exact ih (k + 1) f (by omega) (by omega)
theorem unq_quote (s : ByteArray) (f : Nat) (hf : s.size ≤ f) : unqGo f [] (qMid (signs s)) = some (bL s) := by
  have h1 := signs_len s
  have := unq_back s (signs s).length 0 f (by omega) (by omega)
  rw [List.drop_zero] at this
  exact this
/-- the text in marks, or none -/
def unqP (q : List UInt8) : Option (List UInt8) :=
  if q.length < 2 ∨ q.getD 0 0 ≠ 34 ∨ q.getD (q.length - 1) 0 ≠ 34 then none
  else match unqGo q.length [] ((q.drop 1).take (q.length - 2)) with
    | none => none
    | some x => if quoteP ⟨x.toArray⟩ = q then some x else none
theorem unqP_quote (s : ByteArray) : unqP (quoteP s) = some (bL s) := by
  have hl : (quoteP s).length = (qMid (signs s)).length + 2 := by unfold quoteP; simp
  have h0 : (quoteP s).getD 0 0 = 34 := rfl
  have h1 : (quoteP s).getD ((quoteP s).length - 1) 0 = 34 := by
    rw [hl]
    unfold quoteP
    rw [List.getD_eq_getElem?_getD, List.getElem?_append_right (by simp)]
    simp
  have hm : ((quoteP s).drop 1).take ((quoteP s).length - 2) = qMid (signs s) := by
    rw [hl, Nat.add_sub_cancel]
    show (qMid (signs s) ++ [34]).take _ = _
    rw [List.take_left]
  have hq : (signs s).length ≤ (qMid (signs s)).length := by
    have : ∀ l : List Int, (∀ n ∈ l, -256 ≤ n ∧ n ≤ 1114111) → l.length ≤ (qMid l).length := by
      intro l
      induction l with
      | nil => intro _; simp
      | cons n l ih =>
        intro h
        have h1 := (qOne_len (h n (List.mem_cons_self ..))).2
        have h2 := ih (fun x hx => h x (List.mem_cons_of_mem _ hx))
        show l.length + 1 ≤ (qOne n ++ qMid l).length
        rw [List.length_append]; omega
    exact this _ (sSt_mem s s.size)
  unfold unqP
  rw [if_neg (by rw [h0, h1, hl]; simp), hm]
  have := unq_back s (signs s).length 0 (quoteP s).length (by omega) (by omega)
  rw [List.drop_zero] at this
  have h9 : unqGo (quoteP s).length [] (qMid (signs s)) = some (bL s) := this
  rw [h9]
  simp only
  rw [if_pos]
  rfl
theorem unqP_one {q x : List UInt8} (h : unqP q = some x) : quoteP ⟨x.toArray⟩ = q := by
  unfold unqP at h
  split at h
  · cases h
  · split at h
    · cases h
    · split at h
      · rename_i hq
        simp only [Option.some.injEq] at h
        subst h; exact hq
      · cases h
end Go.Proofs.YtockkjhciojgbaaGreatDoor
/- Parse16 -/
/- Words as numbers to the base 16 (internal/strconv.ParseUint), walked. No condition. -/
namespace Go.Proofs.YtockkjhciojgbaaGreatDoor
set_option maxRecDepth 100000
set_option linter.unusedSimpArgs false
open Go.RowKit
set_option linter.unusedVariables false
set_option linter.unusedSimpArgs false

theorem or32 (c : UInt8) : bits .or .u8 (c.toNat : Int) 32 = ((c ||| 32).toNat : Int) := by
  have := u8_or_nat c.toNat 32 c.toNat_lt (by omega)
  rw [show (c ||| 32).toNat = c.toNat ||| 32 from by simp]
  exact this
theorem lower16 (c : UInt8) (w : World) : Calls Tryz.prog 176 #[.int .u8 (c.toNat : Int)] w fun e w' => e = .returned (.int .u8 ((c ||| 32).toNat : Int)) ∧ w = w' := by
  have h := or32 c
  have hl := (c ||| 32).toNat_lt
  go_enter Tryz.func176, Tryz.ntmps176
  go_wp2
  go_ret
  exact ⟨rfl, rfl⟩
def PuPost (mx : Nat) (l : List UInt8) (w : World) (e : Ending) (w' : World) : Prop :=
  (∃ n, puS mx l = some n ∧ e = .returned (.tuple #[.int .u64 (n : Int), .nilIface]) ∧ Below w.heap.size w w') ∨
  (∃ v k, puS mx l = none ∧ (k = 1 ∨ k = 2) ∧ e = .returned (.tuple #[.int .u64 v, .iface 241 (.int .i64 k)]) ∧ Below w.heap.size w w')
theorem PuPost.yes {mx : Nat} {l : List UInt8} {w w' : World} {n : Nat} (h : puS mx l = some n) (hb : Below w.heap.size w w') : PuPost mx l w (.returned (.tuple #[.int .u64 (n : Int), .nilIface])) w' := .inl ⟨n, h, rfl, hb⟩
theorem PuPost.no {mx : Nat} {l : List UInt8} {w w' : World} {v k : Int} (h : puS mx l = none) (hk : k = 1 ∨ k = 2) (hb : Below w.heap.size w w') : PuPost mx l w (.returned (.tuple #[.int .u64 v, .iface 241 (.int .i64 k)])) w' := .inr ⟨v, k, h, hk, rfl, hb⟩
theorem puS_at {mx : Nat} {l : List UInt8} {k m : Nat} {c : UInt8} (hp : pu mx 0 (l.take k) = some m) (hc : l[k]? = some c) : puS mx l = pu mx m (c :: l.drop (k + 1)) := by
  have hl : l = l.take k ++ c :: l.drop (k + 1) := by
    have hk := (List.getElem?_eq_some_iff.1 hc).1
    have he := (List.getElem?_eq_some_iff.1 hc).2
    conv => lhs; rw [← List.take_append_drop k l, List.drop_eq_getElem_cons hk, he]
  unfold puS
  rw [if_neg (fun e => by rw [e] at hc; simp at hc)]
  conv => lhs; rw [hl]
  rw [pu_app, hp]
  rfl
theorem pu_step {mx : Nat} {l : List UInt8} {k m : Nat} {c : UInt8} (hp : pu mx 0 (l.take k) = some m) (hc : l[k]? = some c) {d : Nat} (hd : hexV c = some d) (hm : ¬ mx < m * 16 + d) : pu mx 0 (l.take (k + 1)) = some (m * 16 + d) := by
  rw [take_snoc' hc, pu_app, hp]
  simp only [Option.bind_some, pu, hd]
  rw [if_neg hm]
theorem hexV_95 {c : UInt8} {d : Nat} (h : hexV c = some d) : ((c.toNat : Int) == 95) = false := by
  rw [beq_eq_false_iff_ne]
  intro e
  have hc : c = 95 := by
    have h1 : c.toNat = 95 := by omega
    exact UInt8.toNat_inj.1 (by rw [h1]; rfl)
  subst hc
  rw [show hexV 95 = none by decide] at h
  cases h
def bL16 (s : ByteArray) : List UInt8 := s.data.toList
theorem bL16_len (s : ByteArray) : (bL16 s).length = s.size := by unfold bL16; rw [Array.length_toList]; rfl
set_option maxHeartbeats 4000000 in
theorem parse16_8 (s : ByteArray) (w : World) (hs : s.size ≤ 200000) :
    Calls Tryz.prog 167 #[.string s, .int .i64 16, .int .i64 8] w (PuPost 255 (bL16 s) w) := by
  have hs2 : s.size ≤ maxLen := by unfold maxLen; omega
  have hs' : s.size ≤ 9223372036854775807 := by omega
  by_cases he : s.size = 0
  · have hl : bL16 s = [] := List.eq_nil_of_length_eq_zero (by rw [bL16_len]; exact he)
    have hn : puS 255 (bL16 s) = none := by rw [hl]; rfl
    obtain rfl : s = ⟨#[]⟩ := by
      apply ByteArray.ext
      apply Array.ext'
      exact hl
    have HN := hid' hn
    clear hn hl he
    have hb0 := bel_refl w
    go_enter Tryz.func167, Tryz.ntmps167
    go_wp2
    go_ret2
    exact .no HN.out (.inr rfl) hb0
  have hpos : 0 < s.size := by omega
  have hnl : s.toList.isEmpty = false := by
    cases h : s.toList with
    | nil =>
      exfalso
      have h2 : (bL16 s).length = 0 := by
        unfold bL16
        rw [← ByteArray.toList_eq, h]; rfl
      rw [bL16_len] at h2
      exact he h2
    | cons a b => rfl
  have HO := hid' (OwnC.bytes w 5 s hs2)
  have HB := hid' (bytesWorld_below w 5 s)
  have hconv : (convert 9 62 (.string s)).run Tryz.prog w = .ok (.slice (some ⟨w.heap.size, 0, none⟩) s.size (grownCap w s.size 0 5)) (Lib.bytesWorld w 5 s) := Lib.run_convert_string_bytes (u := .string) w 9 62 5 s (by kernel_rfl) (by kernel_rfl) (by kernel_rfl)
  go_enter Tryz.func167, Tryz.ntmps167
  go_wp2
  obtain ⟨hol, hom, hrows⟩ := HO.out
  have HC := hid' (fun (j : Nat) (c : UInt8) (hc : (bL16 s)[j]? = some c) => (show (Lib.bytesWorld w 5 s).cell? ⟨w.heap.size, j, none⟩ = some (.int .u8 (c.toNat : Int)) from by
    rcases hrows with ⟨h1, _⟩ | ⟨g, cap, h1, _, _, _, h2, _⟩
    · cases h1
    · injection h1 with h1
      injection h1 with h1
      injection h1 with h1
      subst h1
      exact h2 j _ (by rw [List.getElem?_map]; unfold bL16 at hc; rw [hc]; rfl)))
  have HN := hid' (bL16_len s)
  generalize hcap : grownCap w s.size 0 5 = cap at *
  generalize hW1 : Lib.bytesWorld w 5 s = w1 at *
  clear hol hom hrows HO hconv hcap hW1 hnl he
  go_loop [12, 13, 101] (fun v12 v13 v101 => ∃ k m : Nat, k ≤ s.size ∧ v12 = .bool false ∧ v101 = .int .i64 (k : Int) ∧ v13 = .int .u64 (m : Int) ∧ pu 255 0 ((bL16 s).take k) = some m) (fun _ _ v101 => s.size - (intOf v101).toNat)
  case atStart => exact ⟨0, 0, Nat.zero_le _, rfl, rfl, rfl, rfl⟩
  case round =>
    obtain ⟨k, m, hk, rfl, rfl, rfl, hpu⟩ := hrel
    have hm := pu_le (Nat.zero_le _) hpu
    have hcut : decide ((1152921504606846976 : Int) ≤ (m : Int)) = false := by rw [decide_eq_false_iff_not]; omega
    have HPU := hid' hpu
    clear hpu
    by_cases hlt : k < s.size
    · obtain ⟨c, hc⟩ : ∃ c, (bL16 s)[k]? = some c := ⟨_, List.getElem?_eq_getElem (by rw [HN.out]; exact hlt)⟩
      have hcell := HC.out k c hc
      have hat := puS_at HPU.out hc
      have hclt := c.toNat_lt
      have hllt := (c ||| 32).toNat_lt
      have HLOW := hid' (fun W => lower16 c W)
      have HCC := hid' hc
      cases hv : hexV c with
      | none =>
        have hn : puS 255 (bL16 s) = none := by rw [hat]; simp only [pu, hv]
        have HNO := hid' hn
        unfold hexV at hv
        have hnd : ¬ (48 ≤ c.toNat ∧ c.toNat ≤ 57) := fun h => by rw [if_pos h] at hv; cases hv
        rw [if_neg hnd] at hv
        have hnl : ¬ (97 ≤ (c ||| 32).toNat ∧ (c ||| 32).toNat ≤ 102) := fun h => by rw [if_pos h] at hv; cases hv
        clear hn hat hc hv
        generalize c.toNat = g at *
        generalize (c ||| 32).toNat = lc at *
        obtain ⟨b95, h95⟩ : ∃ b95, ((g : Int) == 95) = b95 := ⟨_, rfl⟩
        go_wp2_with (go_at_call 176; refine (HLOW.out _).mono ?_; rintro e w' ⟨rfl, rfl⟩)
        all_goals first
          | (exfalso; omega)
          | (go_ret2; exact .no HNO.out (.inr rfl) HB.out)
      | some d =>
        have hd16 := hexV_lt hv
        have hst := fun h => pu_step HPU.out hc hv h
        have hov : 255 < m * 16 + d → puS 255 (bL16 s) = none := fun h => by rw [hat]; simp only [pu, hv]; rw [if_pos h]
        have HST := hid' hst
        have HOV := hid' hov
        have hvv : (48 ≤ c.toNat ∧ c.toNat ≤ 57 ∧ d = c.toNat - 48) ∨ (¬ (48 ≤ c.toNat ∧ c.toNat ≤ 57) ∧ 97 ≤ (c ||| 32).toNat ∧ (c ||| 32).toNat ≤ 102 ∧ d = (c ||| 32).toNat - 87) := by
          unfold hexV at hv
          split at hv
          · rename_i h; exact .inl ⟨h.1, h.2, by have := Option.some.inj hv; omega⟩
          · rename_i h
            split at hv
            · rename_i h'; exact .inr ⟨h, h'.1, h'.2, by have := Option.some.inj hv; omega⟩
            · cases hv
        have h95 := hexV_95 hv
        clear hst hov hat hc hv
        generalize c.toNat = g at *
        generalize (c ||| 32).toNat = lc at *
        by_cases hbig : 255 < m * 16 + d
        · have HNO := hid' (HOV.out hbig)
          rcases hvv with ⟨h1, h2, h3⟩ | ⟨h0, h1, h2, h3⟩
          all_goals
            subst h3
            go_wp2_with (go_at_call 176; refine (HLOW.out _).mono ?_; rintro e w' ⟨rfl, rfl⟩)
            all_goals first
              | (exfalso; omega)
              | (go_ret2; exact .no HNO.out (.inl rfl) HB.out)
        · have HOK := hid' (HST.out hbig)
          rcases hvv with ⟨h1, h2, h3⟩ | ⟨h0, h1, h2, h3⟩
          all_goals
            subst h3
            go_wp2_with (go_at_call 176; refine (HLOW.out _).mono ?_; rintro e w' ⟨rfl, rfl⟩)
            all_goals first
              | (exfalso; omega)
              | (go_round
                 case rel => exact ⟨k + 1, _, by omega, rfl, by go_num, by go_num, HOK.out⟩
                 case measure => simp [intOf]; omega)
    · have hall : (bL16 s).take k = bL16 s := List.take_of_length_le (by rw [HN.out]; omega)
      have hy : puS 255 (bL16 s) = some m := by
        unfold puS
        rw [if_neg (fun e => by have := HN.out; rw [e] at this; simp at this; omega)]
        have := HPU.out
        rwa [hall] at this
      have HY := hid' hy
      clear hall hy
      go_wp2
      go_ret2
      exact .yes HY.out HB.out
set_option maxHeartbeats 4000000 in
theorem parse16_31 (s : ByteArray) (w : World) (hs : s.size ≤ 200000) :
    Calls Tryz.prog 167 #[.string s, .int .i64 16, .int .i64 31] w (PuPost 2147483647 (bL16 s) w) := by
  have hs2 : s.size ≤ maxLen := by unfold maxLen; omega
  have hs' : s.size ≤ 9223372036854775807 := by omega
  by_cases he : s.size = 0
  · have hl : bL16 s = [] := List.eq_nil_of_length_eq_zero (by rw [bL16_len]; exact he)
    have hn : puS 2147483647 (bL16 s) = none := by rw [hl]; rfl
    obtain rfl : s = ⟨#[]⟩ := by
      apply ByteArray.ext
      apply Array.ext'
      exact hl
    have HN := hid' hn
    clear hn hl he
    have hb0 := bel_refl w
    go_enter Tryz.func167, Tryz.ntmps167
    go_wp2
    go_ret2
    exact .no HN.out (.inr rfl) hb0
  have hpos : 0 < s.size := by omega
  have hnl : s.toList.isEmpty = false := by
    cases h : s.toList with
    | nil =>
      exfalso
      have h2 : (bL16 s).length = 0 := by
        unfold bL16
        rw [← ByteArray.toList_eq, h]; rfl
      rw [bL16_len] at h2
      exact he h2
    | cons a b => rfl
  have HO := hid' (OwnC.bytes w 5 s hs2)
  have HB := hid' (bytesWorld_below w 5 s)
  have hconv : (convert 9 62 (.string s)).run Tryz.prog w = .ok (.slice (some ⟨w.heap.size, 0, none⟩) s.size (grownCap w s.size 0 5)) (Lib.bytesWorld w 5 s) := Lib.run_convert_string_bytes (u := .string) w 9 62 5 s (by kernel_rfl) (by kernel_rfl) (by kernel_rfl)
  go_enter Tryz.func167, Tryz.ntmps167
  go_wp2
  obtain ⟨hol, hom, hrows⟩ := HO.out
  have HC := hid' (fun (j : Nat) (c : UInt8) (hc : (bL16 s)[j]? = some c) => (show (Lib.bytesWorld w 5 s).cell? ⟨w.heap.size, j, none⟩ = some (.int .u8 (c.toNat : Int)) from by
    rcases hrows with ⟨h1, _⟩ | ⟨g, cap, h1, _, _, _, h2, _⟩
    · cases h1
    · injection h1 with h1
      injection h1 with h1
      injection h1 with h1
      subst h1
      exact h2 j _ (by rw [List.getElem?_map]; unfold bL16 at hc; rw [hc]; rfl)))
  have HN := hid' (bL16_len s)
  generalize hcap : grownCap w s.size 0 5 = cap at *
  generalize hW1 : Lib.bytesWorld w 5 s = w1 at *
  clear hol hom hrows HO hconv hcap hW1 hnl he
  go_loop [12, 13, 101] (fun v12 v13 v101 => ∃ k m : Nat, k ≤ s.size ∧ v12 = .bool false ∧ v101 = .int .i64 (k : Int) ∧ v13 = .int .u64 (m : Int) ∧ pu 2147483647 0 ((bL16 s).take k) = some m) (fun _ _ v101 => s.size - (intOf v101).toNat)
  case atStart => exact ⟨0, 0, Nat.zero_le _, rfl, rfl, rfl, rfl⟩
  case round =>
    obtain ⟨k, m, hk, rfl, rfl, rfl, hpu⟩ := hrel
    have hm := pu_le (Nat.zero_le _) hpu
    have hcut : decide ((1152921504606846976 : Int) ≤ (m : Int)) = false := by rw [decide_eq_false_iff_not]; omega
    have HPU := hid' hpu
    clear hpu
    by_cases hlt : k < s.size
    · obtain ⟨c, hc⟩ : ∃ c, (bL16 s)[k]? = some c := ⟨_, List.getElem?_eq_getElem (by rw [HN.out]; exact hlt)⟩
      have hcell := HC.out k c hc
      have hat := puS_at HPU.out hc
      have hclt := c.toNat_lt
      have hllt := (c ||| 32).toNat_lt
      have HLOW := hid' (fun W => lower16 c W)
      have HCC := hid' hc
      cases hv : hexV c with
      | none =>
        have hn : puS 2147483647 (bL16 s) = none := by rw [hat]; simp only [pu, hv]
        have HNO := hid' hn
        unfold hexV at hv
        have hnd : ¬ (48 ≤ c.toNat ∧ c.toNat ≤ 57) := fun h => by rw [if_pos h] at hv; cases hv
        rw [if_neg hnd] at hv
        have hnl : ¬ (97 ≤ (c ||| 32).toNat ∧ (c ||| 32).toNat ≤ 102) := fun h => by rw [if_pos h] at hv; cases hv
        clear hn hat hc hv
        generalize c.toNat = g at *
        generalize (c ||| 32).toNat = lc at *
        obtain ⟨b95, h95⟩ : ∃ b95, ((g : Int) == 95) = b95 := ⟨_, rfl⟩
        go_wp2_with (go_at_call 176; refine (HLOW.out _).mono ?_; rintro e w' ⟨rfl, rfl⟩)
        all_goals first
          | (exfalso; omega)
          | (go_ret2; exact .no HNO.out (.inr rfl) HB.out)
      | some d =>
        have hd16 := hexV_lt hv
        have hst := fun h => pu_step HPU.out hc hv h
        have hov : 2147483647 < m * 16 + d → puS 2147483647 (bL16 s) = none := fun h => by rw [hat]; simp only [pu, hv]; rw [if_pos h]
        have HST := hid' hst
        have HOV := hid' hov
        have hvv : (48 ≤ c.toNat ∧ c.toNat ≤ 57 ∧ d = c.toNat - 48) ∨ (¬ (48 ≤ c.toNat ∧ c.toNat ≤ 57) ∧ 97 ≤ (c ||| 32).toNat ∧ (c ||| 32).toNat ≤ 102 ∧ d = (c ||| 32).toNat - 87) := by
          unfold hexV at hv
          split at hv
          · rename_i h; exact .inl ⟨h.1, h.2, by have := Option.some.inj hv; omega⟩
          · rename_i h
            split at hv
            · rename_i h'; exact .inr ⟨h, h'.1, h'.2, by have := Option.some.inj hv; omega⟩
            · cases hv
        have h95 := hexV_95 hv
        clear hst hov hat hc hv
        generalize c.toNat = g at *
        generalize (c ||| 32).toNat = lc at *
        by_cases hbig : 2147483647 < m * 16 + d
        · have HNO := hid' (HOV.out hbig)
          rcases hvv with ⟨h1, h2, h3⟩ | ⟨h0, h1, h2, h3⟩
          all_goals
            subst h3
            go_wp2_with (go_at_call 176; refine (HLOW.out _).mono ?_; rintro e w' ⟨rfl, rfl⟩)
            all_goals first
              | (exfalso; omega)
              | (go_ret2; exact .no HNO.out (.inl rfl) HB.out)
        · have HOK := hid' (HST.out hbig)
          rcases hvv with ⟨h1, h2, h3⟩ | ⟨h0, h1, h2, h3⟩
          all_goals
            subst h3
            go_wp2_with (go_at_call 176; refine (HLOW.out _).mono ?_; rintro e w' ⟨rfl, rfl⟩)
            all_goals first
              | (exfalso; omega)
              | (go_round
                 case rel => exact ⟨k + 1, _, by omega, rfl, by go_num, by go_num, HOK.out⟩
                 case measure => simp [intOf]; omega)
    · have hall : (bL16 s).take k = bL16 s := List.take_of_length_le (by rw [HN.out]; omega)
      have hy : puS 2147483647 (bL16 s) = some m := by
        unfold puS
        rw [if_neg (fun e => by have := HN.out; rw [e] at this; simp at this; omega)]
        have := HPU.out
        rwa [hall] at this
      have HY := hid' hy
      clear hall hy
      go_wp2
      go_ret2
      exact .yes HY.out HB.out
end Go.Proofs.YtockkjhciojgbaaGreatDoor
/- QuoteP -/
/- What stands at the front of what is between marks (quote.piece), walked. No condition but the tables and variables of Go's own library. -/
namespace Go.Proofs.YtockkjhciojgbaaGreatDoor
set_option maxRecDepth 100000
set_option linter.unusedSimpArgs false
open Go.RowKit
set_option linter.unusedVariables false
set_option linter.unusedSimpArgs false

def ErT (w : World) : Prop := (∃ t p, w.cell? ⟨6, 0, none⟩ = some (.iface t p)) ∧ ∃ t p, w.cell? ⟨7, 0, none⟩ = some (.iface t p)
theorem ErT.below {w w' : World} (h : ErT w) (hb : Below w.heap.size w w') : ErT w' := by
  obtain ⟨⟨t, p, h1⟩, t', p', h2⟩ := h
  exact ⟨⟨t, p, (hb.cell (World.block_lt_of_cell? w _ h1)).trans h1⟩, t', p', (hb.cell (World.block_lt_of_cell? w _ h2)).trans h2⟩
def PuPub (mx : Nat) (l : List UInt8) (w : World) (e : Ending) (w' : World) : Prop :=
  (∃ n, puS mx l = some n ∧ e = .returned (.tuple #[.int .u64 (n : Int), .nilIface]) ∧ Below w.heap.size w w') ∨
  (∃ v t p, puS mx l = none ∧ e = .returned (.tuple #[.int .u64 v, .iface t p]) ∧ Below w.heap.size w w')
theorem PuPub.yes {mx : Nat} {l : List UInt8} {w w' : World} {n : Nat} (h : puS mx l = some n) (hb : Below w.heap.size w w') : PuPub mx l w (.returned (.tuple #[.int .u64 (n : Int), .nilIface])) w' := .inl ⟨n, h, rfl, hb⟩
theorem PuPub.no {mx : Nat} {l : List UInt8} {w w' : World} {v : Int} {t : TypeId} {p : Value} (h : puS mx l = none) (hb : Below w.heap.size w w') : PuPub mx l w (.returned (.tuple #[.int .u64 v, .iface t p])) w' := .inr ⟨v, t, p, h, rfl, hb⟩
theorem ppub_8 (s : ByteArray) (w : World) (hs : s.size ≤ 200000) (hE : ErT w) :
    Calls Tryz.prog 146 #[.string s, .int .i64 16, .int .i64 8] w (PuPub 255 (bL16 s) w) := by
  have hlim : s.size ≤ 281474976710656 := by omega
  have HE := hid' hE
  clear hE
  go_enter Tryz.func146, Tryz.ntmps146
  go_wp2_with fail
  refine (parse16_8 s _ hs).mono ?_
  rintro e w1 (⟨n, hn, rfl, hB⟩ | ⟨v, k, hn, hk, rfl, hB⟩)
  · have HN := hid' hn
    clear hn
    go_wp2
    go_ret2
    exact .yes HN.out hB
  · have HN := hid' hn
    obtain ⟨⟨t1, p1, h1⟩, t2, p2, h2⟩ := HE.out.below hB
    clear hn
    rcases hk with rfl | rfl
    · go_wp2_with fail
      refine (Tryz.strconv_toError_range _ s 16 8 _ w1 hlim h2 (.inr ⟨_, _, rfl⟩)).mono ?_
      rintro e w2 ⟨N, rfl, -, -, hB2⟩
      go_wp2
      go_ret2
      exact .no HN.out (bel_then hB hB2)
    · go_wp2_with fail
      refine (Tryz.strconv_toError_syntax _ s 16 8 _ w1 hlim h1 (.inr ⟨_, _, rfl⟩)).mono ?_
      rintro e w2 ⟨N, rfl, -, -, hB2⟩
      go_wp2
      go_ret2
      exact .no HN.out (bel_then hB hB2)
theorem ppub_31 (s : ByteArray) (w : World) (hs : s.size ≤ 200000) (hE : ErT w) :
    Calls Tryz.prog 146 #[.string s, .int .i64 16, .int .i64 31] w (PuPub 2147483647 (bL16 s) w) := by
  have hlim : s.size ≤ 281474976710656 := by omega
  have HE := hid' hE
  clear hE
  go_enter Tryz.func146, Tryz.ntmps146
  go_wp2_with fail
  refine (parse16_31 s _ hs).mono ?_
  rintro e w1 (⟨n, hn, rfl, hB⟩ | ⟨v, k, hn, hk, rfl, hB⟩)
  · have HN := hid' hn
    clear hn
    go_wp2
    go_ret2
    exact .yes HN.out hB
  · have HN := hid' hn
    obtain ⟨⟨t1, p1, h1⟩, t2, p2, h2⟩ := HE.out.below hB
    clear hn
    rcases hk with rfl | rfl
    · go_wp2_with fail
      refine (Tryz.strconv_toError_range _ s 16 31 _ w1 hlim h2 (.inr ⟨_, _, rfl⟩)).mono ?_
      rintro e w2 ⟨N, rfl, -, -, hB2⟩
      go_wp2
      go_ret2
      exact .no HN.out (bel_then hB hB2)
    · go_wp2_with fail
      refine (Tryz.strconv_toError_syntax _ s 16 31 _ w1 hlim h1 (.inr ⟨_, _, rfl⟩)).mono ?_
      rintro e w2 ⟨N, rfl, -, -, hB2⟩
      go_wp2
      go_ret2
      exact .no HN.out (bel_then hB hB2)
theorem idx_eq (l : List UInt8) (c : UInt8) : Lib.indexByte l c = if c ∈ l then (l.idxOf c : Int) else -1 := by
  induction l with
  | nil => rfl
  | cons b l ih =>
    unfold Lib.indexByte
    by_cases hb : b = c
    · subst hb
      simp
    · have h1 : (b == c) = false := by rw [beq_eq_false_iff_ne]; exact hb
      rw [h1, ih]
      have h2 : c ∈ b :: l ↔ c ∈ l := by
        rw [List.mem_cons]
        exact ⟨fun h => h.resolve_left (fun e => hb e.symm), .inr⟩
      by_cases hm : c ∈ l
      · rw [if_pos hm, if_pos (h2.2 hm), List.idxOf_cons, h1]
        have : ((l.idxOf c : Int) == -1) = false := by rw [beq_eq_false_iff_ne]; omega
        rw [this]
        simp
      · rw [if_neg hm, if_neg (fun h => hm (h2.1 h))]
        rfl
theorem enc_eq (n : Nat) : Utf8.encode (n : Int) = strOf (Lib.encodeRune (n : Int)) := by
  have hv := valid_iff n
  unfold Utf8.encode Lib.encodeRune strOf
  have key : ∀ c : Nat, (c = n ∧ (n < 55296 ∨ (57344 ≤ n ∧ n ≤ 1114111)) ∨ (c = 65533 ∧ ¬ (n < 55296 ∨ (57344 ≤ n ∧ n ≤ 1114111)))) →
      (let b (n : Nat) : UInt8 := UInt8.ofNat n
       if c < 0x80 then (⟨#[b c]⟩ : ByteArray)
       else if c < 0x800 then ⟨#[b (0xC0 + c / 64), b (0x80 + c % 64)]⟩
       else if c < 0x10000 then ⟨#[b (0xE0 + c / 4096), b (0x80 + c / 64 % 64), b (0x80 + c % 64)]⟩
       else ⟨#[b (0xF0 + c / 262144), b (0x80 + c / 4096 % 64), b (0x80 + c / 64 % 64), b (0x80 + c % 64)]⟩) = ⟨((Lib.encodeRuneZ (n : Int)).map fun x => x.toNat.toUInt8).toArray⟩ := by
    intro c hc
    simp only
    rcases hc with ⟨rfl, hok⟩ | ⟨rfl, hbad⟩
    · by_cases h1 : c < 128
      · rw [if_pos h1, Lib.encodeRuneZ_one (by omega) (by omega)]
        rfl
      · rw [if_neg h1]
        by_cases h2 : c < 2048
        · rw [if_pos h2, Lib.encodeRuneZ_two (by omega) (by omega)]
          have e1 : (192 + (c : Int) / 64).toNat = 192 + c / 64 := by omega
          have e2 : (128 + (c : Int) % 64).toNat = 128 + c % 64 := by omega
          simp only [List.map_cons, List.map_nil, e1, e2]
        · rw [if_neg h2]
          by_cases h3 : c < 65536
          · rw [if_pos h3, Lib.encodeRuneZ_three (by omega)]
            have e1 : (224 + (c : Int) / 4096).toNat = 224 + c / 4096 := by omega
            have e2 : (128 + (c : Int) / 64 % 64).toNat = 128 + c / 64 % 64 := by omega
            have e3 : (128 + (c : Int) % 64).toNat = 128 + c % 64 := by omega
            simp only [List.map_cons, List.map_nil, e1, e2, e3]
          · rw [if_neg h3, Lib.encodeRuneZ_four (by omega) (by omega)]
            have e0 : (240 + (c : Int) / 262144).toNat = 240 + c / 262144 := by omega
            have e1 : (128 + (c : Int) / 4096 % 64).toNat = 128 + c / 4096 % 64 := by omega
            have e2 : (128 + (c : Int) / 64 % 64).toNat = 128 + c / 64 % 64 := by omega
            have e3 : (128 + (c : Int) % 64).toNat = 128 + c % 64 := by omega
            simp only [List.map_cons, List.map_nil, e0, e1, e2, e3]
    · rw [Lib.encodeRuneZ_bad (by omega)]
      rfl
  refine key _ ?_
  by_cases h : n < 55296 ∨ (57344 ≤ n ∧ n ≤ 1114111)
  · left
    rw [if_pos (hv.2 h)]
    exact ⟨by simp, h⟩
  · right
    rw [if_neg (fun e => h (hv.1 e))]
    exact ⟨rfl, h⟩
theorem bL16_eq (s : ByteArray) : bL16 s = bL s := rfl
theorem getD_nat (s : ByteArray) (i : Nat) (h : i < s.size) : (bL s).getD i 0 = UInt8.ofNat (gb s i) := by
  have hl : i < (bL s).length := by rw [bL_len]; exact h
  rw [List.getD_eq_getElem?_getD, List.getElem?_eq_getElem hl, gb_eq s i h]
  simp
  rfl
theorem bL_ext (s : ByteArray) (i j : Nat) : bL (s.extract i j) = ((bL s).drop i).take (j - i) := by
  unfold bL
  rw [ByteArray.data_extract]
  simp [List.take_drop]
theorem bL_inj {a b : ByteArray} (h : bL a = bL b) : a = b := ByteArray.ext (Array.ext' h)
theorem bL_str (l : List UInt8) : bL (strOf l) = l := rfl
theorem strNe {a b : ByteArray} (h : ¬ a = b) : (a.toList == b.toList) = false := by
  rw [beq_eq_false_iff_ne]
  intro e
  rw [ByteArray.toList_eq, ByteArray.toList_eq] at e
  exact h (bL_inj e)
theorem strQ_ext (s : ByteArray) (i j : Nat) : strOf (((bL s).drop i).take (j - i)) = s.extract i j := bL_inj (by rw [bL_str, bL_ext])
theorem ownQ_one (w : World) (e : TypeId) (a : UInt8) : OwnC (w.alloc (.cells #[.int .u8 (a.toNat : Int)] e)) w.heap.size (.slice (some ⟨w.heap.size, 0, none⟩) 1 1) 1 ([a].map bcell) :=
  ⟨rfl, by unfold maxLen; omega, .inr ⟨w.heap.size, 1, rfl, Nat.le_refl _, by simp, Nat.le_refl _, fun j u hj => by
    rw [(Blk.new_ w e #[.int .u8 (a.toNat : Int)]).cell]
    simpa [bcell] using hj, fun j h1 h2 => by omega⟩⟩
theorem convQ_one (w : World) (n : Nat) (h : n < 256) : (convert 62 9 (.slice (some ⟨w.heap.size, 0, none⟩) 1 1)).run Tryz.prog (w.alloc (.cells #[.int .u8 (n : Int)] 5)) = .ok (.string (strOf [UInt8.ofNat n])) (w.alloc (.cells #[.int .u8 (n : Int)] 5)) := by
  have h1 := (ownQ_one w 5 (UInt8.ofNat n)).string (P := Tryz.prog) 62 9 5 (by kernel_rfl) (by kernel_rfl) (by kernel_rfl)
  have h2 : (UInt8.ofNat n).toNat = n := by simp; omega
  rwa [h2] at h1
theorem getD_is (s : ByteArray) (i : Nat) (h : i < s.size) (c : Nat) (hc : c < 256) : (bL s).getD i 0 = UInt8.ofNat c ↔ gb s i = c := by
  rw [getD_nat s i h]
  constructor
  · intro e
    have := congrArg UInt8.toNat e
    have hg := gb_lt s i
    simp at this; omega
  · intro e; rw [e]
theorem pieceP_nul {l : List UInt8} (h0 : l.getD 0 0 = 92) (h1 : ¬ (1 < l.length ∧ (l.getD 1 0 = 34 ∨ l.getD 1 0 = 92))) (h2 : ¬ (3 < l.length ∧ l.getD 1 0 = 120)) (h3 : l.take 3 ≠ [92, 117, 123]) : pieceP l = ([], 0) := by
  unfold pieceP; rw [if_neg (fun e => e h0), if_neg h1, if_neg h2, if_neg h3]
theorem pieceP_x {l : List UInt8} (h0 : l.getD 0 0 = 92) (h1 : ¬ (1 < l.length ∧ (l.getD 1 0 = 34 ∨ l.getD 1 0 = 92))) (h2 : 3 < l.length ∧ l.getD 1 0 = 120) : pieceP l = (match puS 255 ((l.drop 2).take 2) with | some n => ([UInt8.ofNat n], 4) | none => ([], 0)) := by
  unfold pieceP; rw [if_neg (fun e => e h0), if_neg h1, if_pos h2] <;> rfl
theorem pieceP_u {l : List UInt8} (h0 : l.getD 0 0 = 92) (h1 : ¬ (1 < l.length ∧ (l.getD 1 0 = 34 ∨ l.getD 1 0 = 92))) (h2 : ¬ (3 < l.length ∧ l.getD 1 0 = 120)) (h3 : l.take 3 = [92, 117, 123]) :
    pieceP l = if 125 ∈ l then (match puS 2147483647 ((l.drop 3).take (l.idxOf 125 - 3)) with | some n => (Lib.encodeRune n, l.idxOf 125 + 1) | none => ([], 0)) else ([], 0) := by
  unfold pieceP; rw [if_neg (fun e => e h0), if_neg h1, if_neg h2, if_pos h3] <;> rfl
theorem hasP_iff (s : ByteArray) : Lib.hasPrefix s.data.toList [92, 117, 123] = decide ((bL s).take 3 = [92, 117, 123]) := by
  unfold Lib.hasPrefix
  rw [Bool.eq_iff_iff, List.isPrefixOf_iff_prefix, decide_eq_true_iff, List.prefix_iff_eq_take]
  exact ⟨fun h => h.symm, fun h => h.symm⟩
theorem idx_ge3 {l : List UInt8} (h3 : l.take 3 = [92, 117, 123]) (hm : 125 ∈ l) : 3 ≤ l.idxOf 125 ∧ l.idxOf 125 < l.length := by
  refine ⟨?_, List.idxOf_lt_length_of_mem hm⟩
  have hl : l = [92, 117, 123] ++ l.drop 3 := by rw [← h3, List.take_append_drop]
  rw [hl]
  simp [List.idxOf_cons]
theorem conv_i32 (n : Nat) (h : n ≤ 2147483647) (W : World) : (convert 198 21 (.int .u64 (n : Int))).run Tryz.prog W = .ok (.int .i32 (n : Int)) W := by
  have := run_convert_int (P := Tryz.prog) W 198 21 .u64 (n : Int) (by kernel_rfl) (by kernel_rfl)
  rw [this, show Tryz.prog.intKind 21 = .i32 by kernel_rfl]
  have hw : IntKind.i32.wrap (n : Int) = (n : Int) := by simp [IntKind.wrap, IntKind.bits, IntKind.signed]; omega
  rw [hw]
theorem conv_str (n : Nat) (W : World) : (convert 21 9 (.int .i32 (n : Int))).run Tryz.prog W = .ok (.string (strOf (Lib.encodeRune (n : Int)))) W := by
  rw [run_convert_int_string W 21 9 .i32 (n : Int) (by kernel_rfl) (by kernel_rfl), enc_eq]
set_option maxHeartbeats 8000000 in
theorem quote_piece (s : ByteArray) (w : World) (hs : s.size ≤ 200000) (h0 : 0 < s.size) (hE : ErT w) :
    Calls Tryz.prog 111 #[.string s] w fun e w' => e = .returned (.tuple #[.string (strOf (pieceP (bL s)).1), .int .i64 ((pieceP (bL s)).2 : Int)]) ∧ Below w.heap.size w w' := by
  have hs' : s.size ≤ 9223372036854775807 := by omega
  have HE := hid' hE
  have hb0 := bel_refl w
  have hg0 := gb_eq s 0 h0
  have hgs0 : (s[0]'h0).toNat = gb s 0 := hg0.symm
  have h92 := getD_is s 0 h0 92 (by omega)
  have hgl0 := gb_lt s 0
  clear hE
  by_cases hc0 : gb s 0 = 92
  case neg =>
    have hp : pieceP (bL s) = ((bL s).take 1, 1) := by unfold pieceP; rw [if_pos (show (bL s).getD 0 0 ≠ 92 from fun e => hc0 (h92.1 e))]
    have hx : strOf ((bL s).take 1) = s.extract 0 1 := by have := strQ_ext s 0 1; simpa using this
    rw [hp]
    simp only
    rw [hx]
    have hne : ((gb s 0 : Int) != 92) = true := by rw [bne_iff_ne]; omega
    have h1i : (1 : Int) ≤ (s.size : Int) := by omega
    clear hp hx h92 hc0 hg0
    generalize gb s 0 = g at *
    go_enter Tryz.func111, Tryz.ntmps111
    go_wp2
    go_ret2
    exact ⟨rfl, hb0⟩
  have hl0 : (bL s).getD 0 0 = 92 := h92.2 hc0
  rw [hc0] at hgs0
  have hlen := bL_len s
  clear hg0 h92 hgl0 hc0
  by_cases hsz : s.size ≤ 1
  · have hn1 : ¬ (1 < (bL s).length ∧ ((bL s).getD 1 0 = 34 ∨ (bL s).getD 1 0 = 92)) := fun e => by omega
    have hn2 : ¬ (3 < (bL s).length ∧ (bL s).getD 1 0 = 120) := fun e => by omega
    have hd1 : decide ((1 : Int) < (s.size : Int)) = false := by rw [decide_eq_false_iff_not]; omega
    have hd3 : decide ((3 : Int) < (s.size : Int)) = false := by rw [decide_eq_false_iff_not]; omega
    clear hlen
    have HPX := hid' (fun W => ((Tryz.strings_HasPrefix s ⟨#[92, 117, 123]⟩ W).mono (fun e w' h => (⟨h.1, h.2.symm⟩ : e = .returned (.bool (Lib.hasPrefix s.data.toList [92, 117, 123])) ∧ W = w'))))
    rw [hasP_iff] at HPX
    by_cases h3 : (bL s).take 3 = [92, 117, 123]
    case neg =>
      have hp := pieceP_nul hl0 hn1 hn2 h3
      rw [hp]
      rw [decide_eq_false h3] at HPX
      clear hp h3 hl0 hn1 hn2
      go_enter Tryz.func111, Tryz.ntmps111
      go_wp2_with (go_at_call 147; refine (HPX.out _).mono ?_; rintro e w' ⟨rfl, rfl⟩)
      go_ret2
      exact ⟨rfl, hb0⟩
    have hp := pieceP_u hl0 hn1 hn2 h3
    rw [decide_eq_true h3] at HPX
    have HIX := hid' (fun W => ((Tryz.strings_IndexByte s 125 W).mono (fun e w' h => (⟨h.1, h.2.symm⟩ : e = .returned (.int .i64 (Lib.indexByte (bL s) 125)) ∧ W = w'))))
    rw [idx_eq] at HIX
    by_cases hm : (125 : UInt8) ∈ bL s
    case neg =>
      rw [if_neg hm] at HIX hp
      rw [hp]
      clear hp h3 hm hl0 hn1 hn2
      go_enter Tryz.func111, Tryz.ntmps111
      go_wp2_with (first | (go_at_call 147; refine (HPX.out _).mono ?_; rintro e w' ⟨rfl, rfl⟩) | (go_at_call 148; refine (HIX.out _).mono ?_; rintro e w' ⟨rfl, rfl⟩))
      go_ret2
      exact ⟨rfl, hb0⟩
    obtain ⟨hj3, hjl⟩ := idx_ge3 h3 hm
    rw [if_pos hm] at HIX hp
    rw [bL_len] at hjl
    obtain ⟨j, hj⟩ : ∃ j, j = (bL s).idxOf 125 := ⟨_, rfl⟩
    rw [← hj] at HIX hp hj3 hjl
    exfalso; omega
  have h1 : 1 < s.size := by omega
  have hg1 := gb_eq s 1 h1
  have hgs1 : (s[1]'h1).toNat = gb s 1 := hg1.symm
  have i34 := getD_is s 1 h1 34 (by omega)
  have i92 := getD_is s 1 h1 92 (by omega)
  have i120 := getD_is s 1 h1 120 (by omega)
  have hgl1 := gb_lt s 1
  clear hg1
  by_cases hA : gb s 1 = 34 ∨ gb s 1 = 92
  · have hp : pieceP (bL s) = (((bL s).drop 1).take 1, 2) := by
      unfold pieceP
      rw [if_neg (fun e => e hl0), if_pos ⟨by omega, hA.imp (fun h => i34.2 h) (fun h => i92.2 h)⟩]
    have hx : strOf (((bL s).drop 1).take 1) = s.extract 1 2 := strQ_ext s 1 2
    rw [hp]
    simp only
    rw [hx]
    have h2i : (2 : Int) ≤ (s.size : Int) := by omega
    clear hp hx i34 i92 i120 hl0 hlen hgl1
    rcases hA with h | h
    all_goals
      rw [h] at hgs1
      clear h
      go_enter Tryz.func111, Tryz.ntmps111
      go_wp2
      go_ret2
      exact ⟨rfl, hb0⟩
  have hn1 : ¬ (1 < (bL s).length ∧ ((bL s).getD 1 0 = 34 ∨ (bL s).getD 1 0 = 92)) := fun e => hA (e.2.imp (fun h => i34.1 h) (fun h => i92.1 h))
  have e34 : ((gb s 1 : Int) == 34) = false := by rw [beq_eq_false_iff_ne]; omega
  have e92 : ((gb s 1 : Int) == 92) = false := by rw [beq_eq_false_iff_ne]; omega
  by_cases h3s : s.size ≤ 3
  · have hn2 : ¬ (3 < (bL s).length ∧ (bL s).getD 1 0 = 120) := fun e => by omega
    have hd3 : decide ((3 : Int) < (s.size : Int)) = false := by rw [decide_eq_false_iff_not]; omega
    clear hlen i34 i92 i120 hA
    generalize gb s 1 = g1 at *
    have HPX := hid' (fun W => ((Tryz.strings_HasPrefix s ⟨#[92, 117, 123]⟩ W).mono (fun e w' h => (⟨h.1, h.2.symm⟩ : e = .returned (.bool (Lib.hasPrefix s.data.toList [92, 117, 123])) ∧ W = w'))))
    rw [hasP_iff] at HPX
    by_cases h3 : (bL s).take 3 = [92, 117, 123]
    case neg =>
      have hp := pieceP_nul hl0 hn1 hn2 h3
      rw [hp]
      rw [decide_eq_false h3] at HPX
      clear hp h3 hl0 hn1 hn2
      go_enter Tryz.func111, Tryz.ntmps111
      go_wp2_with (go_at_call 147; refine (HPX.out _).mono ?_; rintro e w' ⟨rfl, rfl⟩)
      go_ret2
      exact ⟨rfl, hb0⟩
    have hp := pieceP_u hl0 hn1 hn2 h3
    rw [decide_eq_true h3] at HPX
    have HIX := hid' (fun W => ((Tryz.strings_IndexByte s 125 W).mono (fun e w' h => (⟨h.1, h.2.symm⟩ : e = .returned (.int .i64 (Lib.indexByte (bL s) 125)) ∧ W = w'))))
    rw [idx_eq] at HIX
    by_cases hm : (125 : UInt8) ∈ bL s
    case neg =>
      rw [if_neg hm] at HIX hp
      rw [hp]
      clear hp h3 hm hl0 hn1 hn2
      go_enter Tryz.func111, Tryz.ntmps111
      go_wp2_with (first | (go_at_call 147; refine (HPX.out _).mono ?_; rintro e w' ⟨rfl, rfl⟩) | (go_at_call 148; refine (HIX.out _).mono ?_; rintro e w' ⟨rfl, rfl⟩))
      go_ret2
      exact ⟨rfl, hb0⟩
    obtain ⟨hj3, hjl⟩ := idx_ge3 h3 hm
    rw [if_pos hm] at HIX hp
    rw [bL_len] at hjl
    obtain ⟨j, hj⟩ : ∃ j, j = (bL s).idxOf 125 := ⟨_, rfl⟩
    rw [← hj] at HIX hp hj3 hjl
    exfalso; omega
  by_cases hX : gb s 1 = 120
  · have hp := pieceP_x hl0 hn1 ⟨by omega, i120.2 hX⟩
    have hps := ppub_8 (s.extract 2 4) w (by rw [ByteArray.size_extract]; omega) HE.out
    rw [bL16_eq, bL_ext] at hps
    have HPS := hid' hps
    have h4i : (4 : Int) ≤ (s.size : Int) := by omega
    rw [hX] at hgs1
    clear hps i34 i92 i120 hA hn1 hl0 hlen hX hgl1 e34 e92
    cases hpu : puS 255 (((bL s).drop 2).take 2) with
    | none =>
      rw [hpu] at hp
      simp only at hp
      rw [hp]
      have HPU := hid' hpu
      clear hp hpu
      go_enter Tryz.func111, Tryz.ntmps111
      go_wp2_with fail
      refine (HPS.out).mono ?_
      rintro e w1 (⟨n, hn, rfl, hB⟩ | ⟨v, t, p, hn, rfl, hB⟩)
      · exact absurd (HPU.out.symm.trans hn) (by simp)
      · clear hn
        go_wp2
        go_ret2
        exact ⟨rfl, hB⟩
    | some n =>
      rw [hpu] at hp
      simp only at hp
      rw [hp]
      have hnle := puS_le hpu
      have HPU := hid' hpu
      have HCV := hid' (fun W => convQ_one W n (by omega))
      clear hp hpu
      go_enter Tryz.func111, Tryz.ntmps111
      go_wp2_with fail
      refine (HPS.out).mono ?_
      rintro e w1 (⟨n', hn, rfl, hB⟩ | ⟨v, t, p, hn, rfl, hB⟩)
      · rw [HPU.out] at hn
        obtain rfl := Option.some.inj hn
        clear hn
        have hcv := HCV.out w1
        go_wp2
        go_ret2
        exact ⟨rfl, bel_alloc hB _⟩
      · exact absurd (HPU.out.symm.trans hn) (by simp)
  have hn2 : ¬ (3 < (bL s).length ∧ (bL s).getD 1 0 = 120) := fun e => hX (i120.1 e.2)
  have e120 : ((gb s 1 : Int) == 120) = false := by rw [beq_eq_false_iff_ne]; omega
  clear hlen i34 i92 i120 hA hX
  generalize gb s 1 = g1 at *
  have HPX := hid' (fun W => ((Tryz.strings_HasPrefix s ⟨#[92, 117, 123]⟩ W).mono (fun e w' h => (⟨h.1, h.2.symm⟩ : e = .returned (.bool (Lib.hasPrefix s.data.toList [92, 117, 123])) ∧ W = w'))))
  rw [hasP_iff] at HPX
  by_cases h3 : (bL s).take 3 = [92, 117, 123]
  case neg =>
    have hp := pieceP_nul hl0 hn1 hn2 h3
    rw [hp]
    rw [decide_eq_false h3] at HPX
    clear hp h3 hl0 hn1 hn2
    go_enter Tryz.func111, Tryz.ntmps111
    go_wp2_with (go_at_call 147; refine (HPX.out _).mono ?_; rintro e w' ⟨rfl, rfl⟩)
    go_ret2
    exact ⟨rfl, hb0⟩
  have hp := pieceP_u hl0 hn1 hn2 h3
  rw [decide_eq_true h3] at HPX
  have HIX := hid' (fun W => ((Tryz.strings_IndexByte s 125 W).mono (fun e w' h => (⟨h.1, h.2.symm⟩ : e = .returned (.int .i64 (Lib.indexByte (bL s) 125)) ∧ W = w'))))
  rw [idx_eq] at HIX
  by_cases hm : (125 : UInt8) ∈ bL s
  case neg =>
    rw [if_neg hm] at HIX hp
    rw [hp]
    clear hp h3 hm hl0 hn1 hn2
    go_enter Tryz.func111, Tryz.ntmps111
    go_wp2_with (first | (go_at_call 147; refine (HPX.out _).mono ?_; rintro e w' ⟨rfl, rfl⟩) | (go_at_call 148; refine (HIX.out _).mono ?_; rintro e w' ⟨rfl, rfl⟩))
    go_ret2
    exact ⟨rfl, hb0⟩
  obtain ⟨hj3, hjl⟩ := idx_ge3 h3 hm
  rw [if_pos hm] at HIX hp
  rw [bL_len] at hjl
  obtain ⟨j, hj⟩ : ∃ j, j = (bL s).idxOf 125 := ⟨_, rfl⟩
  rw [← hj] at HIX hp hj3 hjl
  have hps := ppub_31 (s.extract 3 j) w (by rw [ByteArray.size_extract]; omega) HE.out
  rw [bL16_eq, bL_ext] at hps
  have HPS := hid' hps
  have hji : (j : Int) ≤ (s.size : Int) := by omega
  have hj3i : (3 : Int) ≤ (j : Int) := by omega
  clear hps h3 hm hl0 hn1 hn2 hj
  cases hpu : puS 2147483647 (((bL s).drop 3).take (j - 3)) with
  | none =>
    rw [hpu] at hp
    simp only at hp
    rw [hp]
    have HPU := hid' hpu
    clear hp hpu
    go_enter Tryz.func111, Tryz.ntmps111
    go_wp2_with (first | (go_at_call 147; refine (HPX.out _).mono ?_; rintro e w' ⟨rfl, rfl⟩) | (go_at_call 148; refine (HIX.out _).mono ?_; rintro e w' ⟨rfl, rfl⟩))
    refine (HPS.out).mono ?_
    rintro e w1 (⟨n, hn, rfl, hB⟩ | ⟨v, t, p, hn, rfl, hB⟩)
    · exact absurd (HPU.out.symm.trans hn) (by simp)
    · clear hn
      go_wp2
      go_ret2
      exact ⟨rfl, hB⟩
  | some n =>
    rw [hpu] at hp
    simp only at hp
    rw [hp]
    have hnle := puS_le hpu
    have HPU := hid' hpu
    simp only
    have HCV := hid' (fun W => conv_i32 n hnle W)
    obtain ⟨X, hX⟩ : ∃ X, X = strOf (Lib.encodeRune (n : Int)) := ⟨_, rfl⟩
    have HCS := hid' (fun W => conv_str n W)
    rw [← hX] at HCS
    rw [← hX]
    have HJJ := hid' (show ((j + 1 : Nat) : Int) = (j : Int) + 1 by omega)
    clear hp hpu hX hnle
    go_enter Tryz.func111, Tryz.ntmps111
    go_wp2_with (first | (go_at_call 147; refine (HPX.out _).mono ?_; rintro e w' ⟨rfl, rfl⟩) | (go_at_call 148; refine (HIX.out _).mono ?_; rintro e w' ⟨rfl, rfl⟩))
    refine (HPS.out).mono ?_
    rintro e w1 (⟨n', hn, rfl, hB⟩ | ⟨v, t, p, hn, rfl, hB⟩)
    · rw [HPU.out] at hn
      obtain rfl := Option.some.inj hn
      clear hn
      have hcv := HCV.out
      have hcs := HCS.out
      go_wp2
      go_ret2
      refine ⟨?_, hB⟩
      rw [HJJ.out]; rfl
    · exact absurd (HPU.out.symm.trans hn) (by simp)
end Go.Proofs.YtockkjhciojgbaaGreatDoor
/- Fmt16 -/
/- Numbers to the base 16 in words (strconv.FormatInt), walked. No condition but one cell of Go's own table. -/
namespace Go.Proofs.YtockkjhciojgbaaGreatDoor
set_option maxRecDepth 100000
set_option linter.unusedSimpArgs false
open Go.RowKit
set_option linter.unusedVariables false
set_option linter.unusedSimpArgs false

def TzT (w : World) : Prop := w.cell? ⟨5, 15, none⟩ = some (.int .u8 4)
theorem TzT.below {w w' : World} (h : TzT w) (hb : Below w.heap.size w w') : TzT w' := (hb.cell (World.block_lt_of_cell? w _ h)).trans h
theorem tz64 (w : World) (hT : TzT w) : Calls Tryz.prog 175 #[.int .u64 16] w fun e w' => e = .returned (.int .i64 4) ∧ w = w' := by
  have h : w.cell? ⟨5, 15, none⟩ = some (.int .u8 4) := hT
  have e : IntKind.u64.wrap (bits BinOp.and IntKind.u64 16 (IntKind.u64.wrap (-16)) * 285870213051353865) / 288230376151711744 = 15 := by kernel_rfl
  clear hT
  go_enter Tryz.func175, Tryz.ntmps175
  go_wp2
  go_ret
  exact ⟨rfl, rfl⟩
theorem tz (w : World) (hT : TzT w) : Calls Tryz.prog 166 #[.int .u64 16] w fun e w' => e = .returned (.int .i64 4) ∧ w = w' := by
  have HT := hid' hT
  clear hT
  go_enter Tryz.func166, Tryz.ntmps166
  go_wp2_with (go_at_call 175; refine (tz64 _ HT.out).mono ?_; rintro e w' ⟨rfl, rfl⟩)
  go_ret
  exact ⟨rfl, rfl⟩
theorem pow2 (w : World) : Calls Tryz.prog 165 #[.int .i64 16] w fun e w' => e = .returned (.bool true) ∧ w = w' := by
  go_enter Tryz.func165, Tryz.ntmps165
  go_wp2
  go_ret
  exact ⟨rfl, rfl⟩
def Z65 : Array Value := Array.replicate 65 (.int .u8 0)
def dgs : ByteArray := ⟨#[48, 49, 50, 51, 52, 53, 54, 55, 56, 57, 97, 98, 99, 100, 101, 102, 103, 104, 105, 106, 107, 108, 109, 110, 111, 112, 113, 114, 115, 116, 117, 118, 119, 120, 121, 122]⟩
theorem dgs_at (k : Nat) (h : k < 16) : ((⟨#[48, 49, 50, 51, 52, 53, 54, 55, 56, 57, 97, 98, 99, 100, 101, 102, 103, 104, 105, 106, 107, 108, 109, 110, 111, 112, 113, 114, 115, 116, 117, 118, 119, 120, 121, 122]⟩ : ByteArray)[k]'(by show k < 36; omega)).toNat = (hexD k).toNat := by
  have : ∀ k : Fin 16, ((⟨#[48, 49, 50, 51, 52, 53, 54, 55, 56, 57, 97, 98, 99, 100, 101, 102, 103, 104, 105, 106, 107, 108, 109, 110, 111, 112, 113, 114, 115, 116, 117, 118, 119, 120, 121, 122]⟩ : ByteArray)[k.val]'(Nat.lt_of_lt_of_le k.isLt (by decide))).toNat = (hexD k.val).toNat := by decide
  exact this ⟨k, h⟩
theorem and15 (u : Nat) (h : u < 18446744073709551616) : bits .and .u64 (u : Int) 15 = ((u % 16 : Nat) : Int) := by
  have := u64_and_nat u 15 h (by omega)
  rw [show (15 : Nat) = 2 ^ 4 - 1 from rfl, Nat.and_two_pow_sub_one_eq_mod] at this
  exact this
theorem slice65 (b i : Nat) (h : i < 65) (W : World) : (Instr.sliceAt 234 (.pointer (some ⟨b, 0, none⟩)) (some (.int .i64 (i : Int))) none none).run Tryz.prog W = .ok (.slice (some ⟨b, i, none⟩) (65 - i) (65 - i)) W := by
  have ha : Tryz.prog.arrayLen 234 = 65 := by kernel_rfl
  have he : Tryz.prog.elem 234 = 5 := by kernel_rfl
  have hs : (sizeOf 5).run Tryz.prog W = .ok 1 W := by kernel_rfl
  rw [run_sliceAt_array_l W 234 ⟨b, 0, none⟩ (by kernel_rfl) .i64 (i : Int) (by omega) (by rw [ha]; omega), he, hs, ha]
  have hne : ¬ (65 = i) := by omega
  simp only [Result.andThen, slicedAt, Int.toNat_natCast, if_neg hne, Nat.mul_one]
  congr 3
  unfold Addr.add
  split
  · rename_i h0; subst h0; rfl
  · simp
/-- digits that stand in an array from a place on -/
def DigA (cs : Array Value) (i : Nat) (low : List UInt8) : Prop := cs.size = 65 ∧ ∀ j c, low[j]? = some c → cs[i + j]? = some (bcell c)
theorem DigA.nil : DigA Z65 65 [] := ⟨by simp [Z65], fun j c h => by simp at h⟩
theorem DigA.cons {cs : Array Value} {i : Nat} {low : List UInt8} (h : DigA cs (i + 1) low) (hi : i < 65) (c : UInt8) : DigA (cs.setIfInBounds i (bcell c)) i (c :: low) := by
  refine ⟨by rw [Array.size_setIfInBounds]; exact h.1, fun j d hj => ?_⟩
  cases j with
  | zero =>
    simp at hj; subst hj
    rw [Nat.add_zero, Array.getElem?_setIfInBounds_self_of_lt (by rw [h.1]; exact hi)]
  | succ j =>
    rw [Array.getElem?_setIfInBounds_ne (by omega)]
    have := h.2 j d (by simpa using hj)
    rwa [show i + 1 + j = i + (j + 1) by omega] at this
set_option maxHeartbeats 2000000 in
theorem fmtBits (n : Nat) (w : World) (hn : n < 4294967296) (hT : TzT w) :
    Calls Tryz.prog 143 #[.slice none 0 0, .int .u64 (n : Int), .int .i64 16, .bool false, .bool false] w fun e w' => e = .returned (.tuple #[.slice none 0 0, .string (strOf (hexL n))]) ∧ Below w.heap.size w w' := by
  have hz : (zeroValue 234).run Tryz.prog w = .ok (.agg Z65) w := by kernel_rfl
  have HT := hid' (hT.below (bel_alloc (bel_refl w) (.cells Z65 234)))
  clear hT
  go_enter Tryz.func143, Tryz.ntmps143
  go_wp2_with (first | (go_at_call 165; refine (pow2 _).mono ?_; rintro e w' ⟨rfl, rfl⟩) | (go_at_call 166; refine (tz _ HT.out).mono ?_; rintro e w' ⟨rfl, rfl⟩))
  have hB0 := hid' (Blk.new_ w 234 Z65)
  have hL0 := hid' (bel_alloc (bel_refl w) (.cells Z65 234))
  go_loopw [1, 13] (fun v1 v13 wr => ∃ (u i : Nat) (low : List UInt8) (cs : Array Value), v1 = .int .u64 (u : Int) ∧ v13 = .int .i64 (i : Int) ∧ hexL u ++ low = hexL n ∧ i + low.length = 65 ∧ u ≤ n ∧ Blk wr w.heap.size 234 cs ∧ DigA cs i low ∧ Below w.heap.size w wr) (fun v1 _ _ => (intOf v1).toNat)
  case atStart => exact ⟨n, 65, [], Z65, rfl, rfl, List.append_nil _, rfl, Nat.le_refl _, hB0.out, DigA.nil, hL0.out⟩
  case round =>
    obtain ⟨u, i, low, cs, rfl, rfl, hex, hil, hun, hB, hD, hL⟩ := hrel
    have hlen := congrArg List.length hex
    rw [List.length_append] at hlen
    have hp := hexL_pos u
    have h8 := hexL_len 7 n (by omega)
    have hib : 58 ≤ i ∧ i ≤ 65 := by omega
    have HEX := hid' hex
    have HB := hid' hB
    have HD := hid' hD
    have HL := hid' hL
    have f0 := hB.frozen (i - 1)
    clear hex hlen hB hD hL
    obtain ⟨i, rfl⟩ : ∃ k, i = k + 1 := ⟨i - 1, by omega⟩
    rw [Nat.add_sub_cancel] at f0
    have i1 : ((i + 1 : Nat) : Int) - 1 = (i : Int) := by omega
    obtain ⟨cv, hcv⟩ : ∃ cv, cs[i]? = some cv := ⟨cs[i]'(by rw [HD.out.1]; omega), Array.getElem?_eq_getElem (by rw [HD.out.1]; omega)⟩
    have d0 : wr.cell? ⟨w.heap.size, i, none⟩ = some cv := by rw [HB.out.cell, hcv]
    clear hcv
    by_cases h16 : 16 ≤ u
    · have hdg := dgs_at (u % 16) (by omega)
      have HDG := hid' hdg
      have HHX := hid' (hexL_ge (n := u) (by omega))
      have hand := and15 u (by omega)
      clear hdg
      go_wp2
      go_roundw
      case rel =>
        refine ⟨u / 16, i, hexD (u % 16) :: low, cs.setIfInBounds i (bcell (hexD (u % 16))), by go_num, by go_num, ?_, by simp only [List.length_cons]; omega, by omega, ?_, HD.out.cons (by omega) _, bel_set HL.out (by show w.heap.size ≤ w.heap.size; omega) _⟩
        · rw [← HEX.out, HHX.out]; simp
        · have := HB.out.set i (bcell (hexD (u % 16)))
          unfold bcell at this ⊢
          rw [← HDG.out] at this ⊢
          exact this
      case measure => simp [intOf]; omega
    · have hdg := dgs_at u (by omega)
      have HDG := hid' hdg
      have HHX := hid' (hexL_lt (n := u) (by omega))
      have hB2 := HB.out.set i (bcell (hexD u))
      have hD2 := HD.out.cons (by omega) (hexD u)
      have hex2 : hexD u :: low = hexL n := by rw [← HEX.out, HHX.out]; rfl
      have hln : (hexL n).length = 65 - i := by rw [← hex2, List.length_cons]; omega
      have hcv2 := run_convert_bytes_arg (P := Tryz.prog) (wr.setCell ⟨w.heap.size, i, none⟩ (bcell (hexD u))) 62 5 (by kernel_rfl) (by kernel_rfl) w.heap.size i (65 - i) (65 - i) ((hexL n).map fun b => (b.toNat : Int)) (by simpa using hln)
        (fun j hj => by
          rw [hB2.cell]
          have hlj : j < (hexL n).length := by omega
          have := hD2.2 j (hexL n)[j] (by rw [hex2]; exact List.getElem?_eq_getElem hlj)
          rw [this]
          unfold bcell
          simp [List.getD_eq_getElem?_getD, List.getElem?_eq_getElem hlj]) 9 (by kernel_rfl)
      have hstr : strOfNums ((hexL n).map fun b => (b.toNat : Int)) = strOf (hexL n) := by
        unfold strOfNums strOf
        rw [List.map_map]
        congr 2
        conv => rhs; rw [← List.map_id (hexL n)]
        apply List.map_congr_left
        intro b _
        simp
      rw [hstr] at hcv2
      unfold bcell at hcv2
      rw [← HDG.out] at hcv2
      have hsl := slice65 w.heap.size i (by omega)
      clear hB2 hD2 hex2 hln hstr hdg
      go_wp2
      go_ret2
      exact ⟨rfl, bel_set HL.out (by show w.heap.size ≤ w.heap.size; omega) _⟩
theorem iFormat16 (n : Nat) (w : World) (hn : n < 4294967296) (hT : TzT w) :
    Calls Tryz.prog 108 #[.int .i64 (n : Int), .int .i64 16] w fun e w' => e = .returned (.string (strOf (hexL n))) ∧ Below w.heap.size w w' := by
  have h1 : decide ((n : Int) < 0) = false := by rw [decide_eq_false_iff_not]; omega
  have HF := hid' (fmtBits n w hn hT)
  clear hT
  go_enter Tryz.func108, Tryz.ntmps108
  go_wp2_with (go_at_call 143; refine HF.out.mono ?_; rintro e w' ⟨rfl, hB⟩)
  go_ret
  exact ⟨rfl, hB⟩
theorem format16 (n : Nat) (w : World) (hn : n < 4294967296) (hT : TzT w) :
    Calls Tryz.prog 65 #[.int .i64 (n : Int), .int .i64 16] w fun e w' => e = .returned (.string (strOf (hexL n))) ∧ Below w.heap.size w w' := by
  have HF := hid' (iFormat16 n w hn hT)
  clear hT
  go_enter Tryz.func65, Tryz.ntmps65
  go_wp2_with (go_at_call 108; refine HF.out.mono ?_; rintro e w' ⟨rfl, hB⟩)
  go_ret
  exact ⟨rfl, hB⟩
end Go.Proofs.YtockkjhciojgbaaGreatDoor
/- BuilderS -/
/- A builder of texts that the call has made itself: written, and read. No condition beyond the lengths told. -/
namespace Go.Proofs.YtockkjhciojgbaaGreatDoor
set_option maxRecDepth 100000
set_option linter.unusedSimpArgs false
open Go.RowKit
set_option linter.unusedVariables false
set_option linter.unusedSimpArgs false

abbrev IsB (B b : Nat) (bs : List Value) (w : World) : Prop := Lib.IsBuilderF 64 5 B b bs w
abbrev UsedB (B b : Nat) (bs : List Value) (w : World) : Prop := Lib.BuilderAtF 64 5 B b (.pointer (some ⟨b, 0, none⟩)) bs w
abbrev Oth (b : Nat) (w w' : World) : Prop := Lib.OthersKept 5 (some b) w w'
theorem UsedB.below {B b : Nat} {bs : List Value} {w w' : World} {p : Value} (h : Lib.BuilderAtF 64 5 B b p bs w) (hb : Below w.heap.size w w') : Lib.BuilderAtF 64 5 B b p bs w' := by
  obtain ⟨hB, v, hbk, hown, hne⟩ := h
  refine ⟨hB, v, (hb.block b (Array.getElem?_eq_some_iff.1 hbk).1).trans hbk, hown.kept (row := none) ⟨hb.os, hb.tape, hb.output, hb.size, fun k hk _ => hb.block k hk⟩ ?_, hne⟩
  cases v.ownBlock <;> simp
theorem IsB.below {B b : Nat} {bs : List Value} {w w' : World} (h : IsB B b bs w) (hb : Below w.heap.size w w') : IsB B b bs w' :=
  h.elim (fun x => .inl (UsedB.below x hb)) (fun x => .inr (UsedB.below x hb))
theorem IsB.new_ (w : World) : IsB w.heap.size w.heap.size [] (w.alloc (.cells #[.pointer none, .slice none 0 0] 64)) := Lib.IsBuilderF.of (Lib.fresh_isBuilder _ _ w)
theorem UsedB.is {B b : Nat} {bs : List Value} {w : World} (h : UsedB B b bs w) : IsB B b bs w := .inr h
def bC (s : ByteArray) : List Value := Lib.strCells s
theorem bC_len (s : ByteArray) : (bC s).length = s.size := Lib.strCells_length s
theorem bC_app (a b : ByteArray) : bC (a ++ b) = bC a ++ bC b := by unfold bC Lib.strCells; rw [ByteArray.data_append]; simp
theorem b_check_used (b : Nat) (w : World) (h0 : w.cell? ⟨b, 0, none⟩ = some (.pointer (some ⟨b, 0, none⟩))) :
    Calls Tryz.prog 60 #[.pointer (some ⟨b, 0, none⟩)] w fun e w' => e = .returned (.tuple #[]) ∧ w = w' := by
  obtain ⟨j, hj, _⟩ := Option.map_eq_some_iff.1 (show (Tryz.prog.info? 64).map (·.size) = some 2 by kernel_rfl)
  have HJ := hid' hj
  clear hj
  go_enter Tryz.func60, Tryz.ntmps60
  go_wp2
  rw [Lib.run_neq_ptr_same w _ Tryz.underlying61 HJ.out]
  go_wp2
  go_end0
  exact ⟨rfl, rfl⟩
theorem b_check_fresh (b : Nat) (w : World) (h0 : w.cell? ⟨b, 0, none⟩ = some (.pointer none)) (hsh : w.shape? b = some (64, 2)) (hfz : w.frozen? ⟨b, 0, none⟩ = false) :
    Calls Tryz.prog 60 #[.pointer (some ⟨b, 0, none⟩)] w fun e w' => e = .returned (.tuple #[]) ∧ w' = w.setCell ⟨b, 0, none⟩ (.pointer (some ⟨b, 0, none⟩)) := by
  obtain ⟨j, hj, hjs⟩ := Option.map_eq_some_iff.1 (show (Tryz.prog.info? 64).map (·.size) = some 2 by kernel_rfl)
  have HJ := hid' hj
  have HJS := hid' hjs
  clear hj hjs
  go_enter Tryz.func60, Tryz.ntmps60
  go_wp2
  rw [Lib.run_to_unsafe w ⟨b, 0, none⟩ Tryz.underlying61 Tryz.underlying162 HJ.out (by rw [HJS.out]; decide) hsh (Nat.zero_lt_succ 1)]
  simp only [Result.andThen]
  rw [Oper.upon_value]
  go_wp2
  rw [run_callFunc_extern (f := 105) rfl (by kernel_rfl) (by kernel_rfl) (by kernel_rfl) (e := Extern.AbiNoEscape.same) (by kernel_rfl)]
  rw [Lib.run_noEscape]
  simp only [Result.andThen]
  rw [Oper.upon_value]
  go_wp2
  rw [Lib.run_from_unsafe w ⟨b, 0, none⟩ Tryz.underlying162 Tryz.underlying61 HJ.out hsh (by kernel_rfl)]
  simp only [Result.andThen]
  rw [Oper.upon_value]
  go_wp2
  go_end0
  exact ⟨rfl, rfl⟩
theorem b_check (B b : Nat) (bs : List Value) (w : World) (h : IsB B b bs w) :
    Calls Tryz.prog 60 #[.pointer (some ⟨b, 0, none⟩)] w fun e w' => e = .returned (.tuple #[]) ∧ (UsedB B b bs w' ∧ Below B w w' ∧ Oth b w w') := by
  rcases h with h | h
  · refine (b_check_fresh b w h.cell0 h.shape h.frozen0).mono ?_
    rintro e w' ⟨rfl, rfl⟩
    exact ⟨rfl, h.used _, (Below.refl B w).setCell (p := ⟨b, 0, none⟩) h.1 _, (Lib.OthersKept.refl _ _ w).setCell ⟨b, 0, none⟩ rfl _⟩
  · refine (b_check_used b w h.cell0).mono ?_
    rintro e w' ⟨rfl, rfl⟩
    exact ⟨rfl, h, Below.refl B _, Lib.OthersKept.refl _ _ _⟩
set_option maxHeartbeats 2000000 in
theorem b_WriteString (B b : Nat) (bs : List Value) (s : ByteArray) (w : World) (h : IsB B b bs w) (hlen : bs.length + s.size ≤ 140737488355328) (hBw : B ≤ w.heap.size) :
    Calls Tryz.prog 30 #[.pointer (some ⟨b, 0, none⟩), .string s] w fun e w' => e = .returned (.tuple #[.int .i64 s.size, .nilIface]) ∧ (UsedB B b (bs ++ Lib.strCells s) w' ∧ Below B w w' ∧ Oth b w w') := by
  obtain ⟨i0, hi, hzz⟩ := Option.map_eq_some_iff.1 (show (Tryz.prog.info? 5).map (fun i => (i.zero, i.size, i.bytes)) = some (some (.int .u8 0), 1, 1) by kernel_rfl)
  simp only [Prod.mk.injEq] at hzz
  obtain ⟨hz0, hz1, hz2⟩ := hzz
  have HI := hid' hi
  have H0 := hid' hz0
  have H1 := hid' hz1
  have H2 := hid' hz2
  clear hi hz0 hz1 hz2
  go_enter Tryz.func30, Tryz.ntmps30
  go_wp2_with fail
  refine (b_check B b bs _ h).mono ?_
  rintro e w1 ⟨rfl, h1, hb1, hk1⟩
  obtain ⟨hB, v, hbk, hown, hne⟩ := h1
  have c0 : w1.cell? ⟨b, 0, none⟩ = some (.pointer (some ⟨b, 0, none⟩)) := by rw [Lib.cell_of_heap hbk]; rfl
  have c1 : w1.cell? ⟨b, 1, none⟩ = some v := by rw [Lib.cell_of_heap hbk]; rfl
  have HBK := hid' hbk
  clear hbk
  go_wp2_with (at_builtin; go_loud (refine Lib.wpList_append_own_stringF _ rfl _ _ 62 9 rfl B 5 i0 Tryz.underlying62 Tryz.underlying9 HI.out H0.out H1.out H2.out _ _ _ rfl hown s rfl ?c3 ?c4 ?c5 ?_))
  case c3 => unfold maxLen; omega
  case c4 => omega
  case c5 => have := hb1.size; omega
  intro v' w2 hown' hgrow _
  have hlt : b < w1.heap.size := (Array.getElem?_eq_some_iff.1 HBK.out).1
  have hb2 : w2.heap[b]? = some (.cells #[.pointer (some ⟨b, 0, none⟩), v] 64 (0, 0)) := by
    rw [hgrow.block b hlt (fun e => hne e.symm)]
    exact HBK.out
  have HB2 := hid' hb2
  have d0 : w2.cell? ⟨b, 0, none⟩ = some (.pointer (some ⟨b, 0, none⟩)) := by rw [Lib.cell_of_heap hb2]; rfl
  have d1 : w2.cell? ⟨b, 1, none⟩ = some v := by rw [Lib.cell_of_heap hb2]; rfl
  have f1 : w2.frozen? ⟨b, 1, none⟩ = false := Lib.frozen_of_heap hb2 1
  obtain ⟨ao, n', cap, rfl⟩ : ∃ ao n' cap, v' = .slice ao n' cap := by
    rcases hown'.2 with ⟨hv, _⟩ | ⟨g, cap, cur, fz, hv, _⟩
    · exact ⟨_, _, _, hv⟩
    · exact ⟨_, _, _, hv⟩
  clear hb2
  go_wp2
  go_ret2
  refine ⟨rfl, ?_, ?_, (hk1.grown hgrow (Lib.ownsRowF_kind hown)).setCell ⟨b, 1, none⟩ rfl _⟩
  · exact Lib.BuilderAtF.put hB HB2.out (bs' := bs ++ Lib.strCells s) (by simpa [Lib.strCells_length] using hown') (by decide)
  · exact (hb1.grown hgrow (by have := hb1.size; omega) (fun k hk => (hown.lt k hk).1)).setCell (p := ⟨b, 1, none⟩) hB _
end Go.Proofs.YtockkjhciojgbaaGreatDoor
/- BuilderR -/
/- A builder of texts: a byte written, a sign below 128 written. No condition beyond the lengths told. -/
namespace Go.Proofs.YtockkjhciojgbaaGreatDoor
set_option maxRecDepth 100000
set_option linter.unusedSimpArgs false
open Go.RowKit
set_option linter.unusedVariables false
set_option linter.unusedSimpArgs false

theorem infoU8 : ∃ i0, Tryz.prog.info? 5 = some i0 ∧ i0.zero = some (.int .u8 0) ∧ i0.size = 1 ∧ i0.bytes = 1 := by
  obtain ⟨i0, hi, hzz⟩ := Option.map_eq_some_iff.1 (show (Tryz.prog.info? 5).map (fun i => (i.zero, i.size, i.bytes)) = some (some (.int .u8 0), 1, 1) by kernel_rfl)
  simp only [Prod.mk.injEq] at hzz
  exact ⟨i0, hi, hzz⟩
set_option maxHeartbeats 2000000 in
theorem b_WriteByte (B b : Nat) (bs : List Value) (c : Int) (w : World) (h : IsB B b bs w) (hlen : bs.length + 1 ≤ 140737488355328) (hBw : B ≤ w.heap.size) :
    Calls Tryz.prog 63 #[.pointer (some ⟨b, 0, none⟩), .int .u8 c] w fun e w' => e = .returned .nilIface ∧ (UsedB B b (bs ++ [.int .u8 c]) w' ∧ Below B w w' ∧ Oth b w w') := by
  obtain ⟨i0, hi, hz0, hz1, hz2⟩ := infoU8
  have HI := hid' hi
  have H0 := hid' hz0
  have H1 := hid' hz1
  have H2 := hid' hz2
  clear hi hz0 hz1 hz2
  go_enter Tryz.func63, Tryz.ntmps63
  go_wp2_with fail
  refine (b_check B b bs _ h).mono ?_
  rintro e w1 ⟨rfl, h1, hb1, hk1⟩
  obtain ⟨hB, v, hbk, hown, hne⟩ := h1
  have c0 : w1.cell? ⟨b, 0, none⟩ = some (.pointer (some ⟨b, 0, none⟩)) := by rw [Lib.cell_of_heap hbk]; rfl
  have c1 : w1.cell? ⟨b, 1, none⟩ = some v := by rw [Lib.cell_of_heap hbk]; rfl
  have HBK := hid' hbk
  clear hbk
  go_wp2_with (at_builtin; refine wpList_append_ownF _ rfl _ _ 62 rfl B 5 i0 (.int .u8 0) 1 1 Tryz.underlying62 HI.out H0.out H1.out H2.out rfl (by decide) _ _ _ rfl (hown.alloc _) ⟨w1.heap.size, 0, none⟩ 1 1 [.int .u8 c] rfl rfl ?c1 ?c2 ?c3 ?c4 ?c5 ?_)
  case c1 =>
    intro j u hj
    match j, hj with
    | 0, hj => simp at hj; subst hj; simp [Addr.add]
  case c2 => intro u hu; simp at hu; subst hu; rfl
  case c3 => unfold maxLen; omega
  case c4 => omega
  case c5 => have := hb1.size; simp; omega
  intro v' w2 hown' hgrow _
  have hlt : b < w1.heap.size := (Array.getElem?_eq_some_iff.1 HBK.out).1
  have hb2 : w2.heap[b]? = some (.cells #[.pointer (some ⟨b, 0, none⟩), v] 64 (0, 0)) := by
    rw [hgrow.block b (by simp; omega) (fun e => hne e.symm), Lib.alloc_old w1 _ b hlt]
    exact HBK.out
  have HB2 := hid' hb2
  have d0 : w2.cell? ⟨b, 0, none⟩ = some (.pointer (some ⟨b, 0, none⟩)) := by rw [Lib.cell_of_heap hb2]; rfl
  have d1 : w2.cell? ⟨b, 1, none⟩ = some v := by rw [Lib.cell_of_heap hb2]; rfl
  have f1 : w2.frozen? ⟨b, 1, none⟩ = false := Lib.frozen_of_heap hb2 1
  obtain ⟨ao, n', cap, rfl⟩ : ∃ ao n' cap, v' = .slice ao n' cap := by
    rcases hown'.2 with ⟨hv, _⟩ | ⟨g, cap, cur, fz, hv, _⟩
    · exact ⟨_, _, _, hv⟩
    · exact ⟨_, _, _, hv⟩
  clear hb2
  go_wp2
  go_ret
  refine ⟨rfl, ?_, ?_, ((hk1.alloc _).grown hgrow (Lib.ownsRowF_kind (hown.alloc _))).setCell ⟨b, 1, none⟩ rfl _⟩
  · exact Lib.BuilderAtF.put hB HB2.out (bs' := bs ++ [.int .u8 c]) (by simpa using hown') (by decide)
  · exact ((hb1.alloc (by have := hb1.size; omega) _).grown hgrow (by have := hb1.size; simp; omega) (fun k hk => (hown.lt k hk).1)).setCell (p := ⟨b, 1, none⟩) hB _
/-- utf8.AppendRune at a sign below 128. -/
theorem u8_AppendRune (B : Nat) (v : Value) (n : Nat) (xs : List Value) (c : Nat) (w : World) (hc : c < 128) (hown : w.ownsRowF B 5 1 v n xs) (hlen : n + 1 ≤ 140737488355328) (hBw : B ≤ w.heap.size) :
    Calls Tryz.prog 109 #[v, .int .i32 (c : Int)] w fun e w' => ∃ v', e = .returned v' ∧ w'.ownsRowF B 5 1 v' (n + 1) (xs ++ [.int .u8 (c : Int)]) ∧ (w.alloc (.cells #[.int .u8 (c : Int)] 5)).grownBy w' v.ownBlock := by
  obtain ⟨i0, hi, hz0, hz1, hz2⟩ := infoU8
  have HI := hid' hi
  have H0 := hid' hz0
  have H1 := hid' hz1
  have H2 := hid' hz2
  clear hi hz0 hz1 hz2
  go_enter Tryz.func109, Tryz.ntmps109
  go_wp2_with (at_builtin; refine wpList_append_ownF _ rfl _ _ 62 rfl B 5 i0 (.int .u8 0) 1 1 Tryz.underlying62 HI.out H0.out H1.out H2.out rfl (by decide) v n xs rfl (hown.alloc _) ⟨w.heap.size, 0, none⟩ 1 1 [.int .u8 (c : Int)] rfl rfl ?c1 ?c2 ?c3 ?c4 ?c5 ?_)
  case c1 =>
    intro j u hj
    match j, hj with
    | 0, hj => simp at hj; subst hj; simp [Addr.add]
  case c2 => intro u hu; simp at hu; subst hu; rfl
  case c3 => unfold maxLen; omega
  case c4 => omega
  case c5 => simp; omega
  intro v' w2 hown' hgrow _
  go_wp2
  go_ret
  exact ⟨v', rfl, hown', hgrow⟩
set_option maxHeartbeats 2000000 in
theorem b_WriteRune (B b : Nat) (bs : List Value) (c : Nat) (w : World) (hc : c < 128) (h : IsB B b bs w) (hlen : bs.length + 1 ≤ 140737488355328) (hBw : B ≤ w.heap.size) :
    Calls Tryz.prog 66 #[.pointer (some ⟨b, 0, none⟩), .int .i32 (c : Int)] w fun e w' => ∃ r, e = .returned (.tuple #[.int .i64 r, .nilIface]) ∧ (UsedB B b (bs ++ [.int .u8 (c : Int)]) w' ∧ Below B w w' ∧ Oth b w w') := by
  go_enter Tryz.func66, Tryz.ntmps66
  go_wp2_with fail
  refine (b_check B b bs _ h).mono ?_
  rintro e w1 ⟨rfl, h1, hb1, hk1⟩
  obtain ⟨hB, v, hbk, hown, hne⟩ := h1
  have c0 : w1.cell? ⟨b, 0, none⟩ = some (.pointer (some ⟨b, 0, none⟩)) := by rw [Lib.cell_of_heap hbk]; rfl
  have c1 : w1.cell? ⟨b, 1, none⟩ = some v := by rw [Lib.cell_of_heap hbk]; rfl
  have HBK := hid' hbk
  have HOW := hid' hown
  have HK1 := hid' hk1
  have HB1 := hid' hb1
  have hbl : bs.length ≤ 9223372036854775807 := by omega
  obtain ⟨ao, m, cp, rfl, hmb⟩ : ∃ ao m cp, v = .slice ao m cp ∧ m = bs.length := by
    rcases hown.2 with ⟨hv, h0⟩ | ⟨g, cap, cur, fz, hv, _⟩
    · exact ⟨_, _, _, hv, h0.symm⟩
    · exact ⟨_, _, _, hv, rfl⟩
  subst hmb
  have hm0 : bs.length ≤ 140737488355328 := by omega
  have hws := hb1.size
  clear hbk hown hk1 hb1
  go_wp2_with fail
  refine (u8_AppendRune B _ _ _ c w1 hc HOW.out (by omega) (by omega)).mono ?_
  rintro e w2 ⟨v', rfl, hown', hgrow⟩
  have hlt : b < w1.heap.size := (Array.getElem?_eq_some_iff.1 HBK.out).1
  have hb2 : w2.heap[b]? = some (.cells #[.pointer (some ⟨b, 0, none⟩), .slice ao bs.length cp] 64 (0, 0)) := by
    rw [hgrow.block b (by simp; omega) (fun e => hne e.symm), Lib.alloc_old w1 _ b hlt]
    exact HBK.out
  have HB2 := hid' hb2
  have d0 : w2.cell? ⟨b, 0, none⟩ = some (.pointer (some ⟨b, 0, none⟩)) := by rw [Lib.cell_of_heap hb2]; rfl
  have d1 : w2.cell? ⟨b, 1, none⟩ = some (.slice ao bs.length cp) := by rw [Lib.cell_of_heap hb2]; rfl
  have f1 : w2.frozen? ⟨b, 1, none⟩ = false := Lib.frozen_of_heap hb2 1
  obtain ⟨ao', m', cap', rfl, hm'⟩ : ∃ ao n' cap, v' = .slice ao n' cap ∧ n' = bs.length + 1 := by
    rcases hown'.2 with ⟨hv, h0⟩ | ⟨g, cap, cur, fz, hv, _⟩
    · omega
    · exact ⟨_, _, _, hv, rfl⟩
  have hm1 : m' ≤ 140737488355328 := by omega
  have HOW2 := hid' hown'
  have HGR := hid' hgrow
  clear hb2 hown' hgrow hm'
  go_wp2
  go_ret2
  refine ⟨_, rfl, ?_, ?_, ((HK1.out.alloc _).grown HGR.out (Lib.ownsRowF_kind (HOW.out.alloc _))).setCell ⟨b, 1, none⟩ rfl _⟩
  · exact Lib.BuilderAtF.put hB HB2.out (bs' := bs ++ [.int .u8 (c : Int)]) (by simpa using HOW2.out) (by decide)
  · exact ((HB1.out.alloc (by omega) _).grown HGR.out (by simp; omega) (fun k hk => (HOW.out.lt k hk).1)).setCell (p := ⟨b, 1, none⟩) hB _
end Go.Proofs.YtockkjhciojgbaaGreatDoor
/- QuoteW -/
/- A text in marks (quote.Quote), walked. No condition but the tables of Go's own library. -/
namespace Go.Proofs.YtockkjhciojgbaaGreatDoor
set_option maxRecDepth 100000
set_option linter.unusedSimpArgs false
open Go.RowKit
set_option linter.unusedVariables false
set_option linter.unusedSimpArgs false

/-- A builder in a block and an iterator over a text in another one. -/
def QSt (w0 W : World) (it : Nat) (s : ByteArray) (pos : Nat) (l : List UInt8) : Prop := it ≠ w0.heap.size ∧ It W it s pos ∧ IsB w0.heap.size w0.heap.size (Lib.byteCells l) W ∧ Below w0.heap.size w0 W
section
variable {w0 W W' : World} {it pos : Nat} {s : ByteArray} {l : List UInt8}
theorem QSt.below (h : QSt w0 W it s pos l) (hb : Below W.heap.size W W') : QSt w0 W' it s pos l := ⟨h.1, h.2.1.below hb, IsB.below h.2.2.1 hb, bel_then h.2.2.2 hb⟩
theorem QSt.wrote {l' : List UInt8} (h : QSt w0 W it s pos l) (h1 : UsedB w0.heap.size w0.heap.size (Lib.byteCells l') W') (h2 : Below w0.heap.size W W') (h3 : Oth w0.heap.size W W') : QSt w0 W' it s pos l' :=
  ⟨h.1, Lib.OthersKept.iter h3 h.2.1 h.1, h1.is, h.2.2.2.trans h2⟩
theorem QSt.bel (h : QSt w0 W it s pos l) : Below w0.heap.size w0 W := h.2.2.2
theorem QSt.next (h : QSt w0 W it s pos l) (h1 : w0.heap.size ≤ it) (p2 : Nat) : QSt w0 (W.iterAt it s p2) it s p2 l :=
  ⟨h.1, h.2.1.next p2, Lib.IsBuilderF.iterAt h.2.2.1 h.2.1 p2, bel_iterAt h.2.2.2 h1 s p2⟩
theorem bc_len (l : List UInt8) : (Lib.byteCells l).length = l.length := by unfold Lib.byteCells; simp
theorem bc_app (a b : List UInt8) : Lib.byteCells (a ++ b) = Lib.byteCells a ++ Lib.byteCells b := by unfold Lib.byteCells; simp
theorem QSt.str (h : QSt w0 W it s pos l) (x : ByteArray) (hl : l.length + x.size ≤ 100000000) :
    Calls Tryz.prog 30 #[.pointer (some ⟨w0.heap.size, 0, none⟩), .string x] W fun e w' => (∃ r, e = .returned (.tuple #[.int .i64 r, .nilIface])) ∧ QSt w0 w' it s pos (l ++ bL x) :=
  (b_WriteString w0.heap.size w0.heap.size _ x W h.2.2.1 (by rw [bc_len]; omega) h.2.2.2.size).mono fun e w' ⟨he, h1, h2, h3⟩ => ⟨⟨_, he⟩, h.wrote (by rw [bc_app]; exact h1) h2 h3⟩
theorem QSt.byte (h : QSt w0 W it s pos l) (c : UInt8) (hl : l.length ≤ 100000000) :
    Calls Tryz.prog 63 #[.pointer (some ⟨w0.heap.size, 0, none⟩), .int .u8 (c.toNat : Int)] W fun e w' => e = .returned .nilIface ∧ QSt w0 w' it s pos (l ++ [c]) :=
  (b_WriteByte w0.heap.size w0.heap.size _ _ W h.2.2.1 (by rw [bc_len]; omega) h.2.2.2.size).mono fun e w' ⟨he, h1, h2, h3⟩ => ⟨he, h.wrote (by rw [bc_app]; exact h1) h2 h3⟩
theorem QSt.rune (h : QSt w0 W it s pos l) (c : Nat) (hc : c < 128) (hl : l.length ≤ 100000000) :
    Calls Tryz.prog 66 #[.pointer (some ⟨w0.heap.size, 0, none⟩), .int .i32 (c : Int)] W fun e w' => (∃ r, e = .returned (.tuple #[.int .i64 r, .nilIface])) ∧ QSt w0 w' it s pos (l ++ [UInt8.ofNat c]) :=
  (b_WriteRune w0.heap.size w0.heap.size _ c W hc h.2.2.1 (by rw [bc_len]; omega) h.2.2.2.size).mono fun e w' ⟨r, he, h1, h2, h3⟩ => ⟨⟨r, he⟩, h.wrote (by
    rw [bc_app]
    have : Lib.byteCells [UInt8.ofNat c] = [.int .u8 (c : Int)] := by unfold Lib.byteCells; simp; omega
    rw [this]; exact h1) h2 h3⟩
end
theorem quote_escaped (c : Nat) (w : World) : Calls Tryz.prog 67 #[.int .i32 (c : Int)] w fun e w' => e = .returned (.bool (decide (c < 32) || decide (126 < c))) ∧ w = w' := by
  by_cases h1 : c < 32
  · have e1 : decide (c < 32) = true := by simpa using h1
    rw [e1, Bool.true_or]
    clear e1
    go_enter Tryz.func67, Tryz.ntmps67
    go_wp2
    go_ret
    exact ⟨rfl, rfl⟩
  · have e1 : decide (c < 32) = false := by simpa using h1
    rw [e1, Bool.false_or]
    by_cases h2 : 126 < c
    · have e2 : decide (126 < c) = true := by simpa using h2
      have e3 : decide ((126 : Int) < (c : Int)) = true := by rw [decide_eq_true_iff]; omega
      rw [e2]
      clear e1 e2
      go_enter Tryz.func67, Tryz.ntmps67
      go_wp2
      go_ret
      exact ⟨rfl, rfl⟩
    · have e2 : decide (126 < c) = false := by simpa using h2
      have e3 : decide ((126 : Int) < (c : Int)) = false := by rw [decide_eq_false_iff_not]; omega
      rw [e2]
      clear e1
      go_enter Tryz.func67, Tryz.ntmps67
      go_wp2
      go_ret
      refine ⟨?_, rfl⟩
      go_simp
def qAcc (s : ByteArray) (k : Nat) : List UInt8 := [34] ++ qMid (sSt s k).1
theorem qAcc_len (s : ByteArray) (k : Nat) : (qAcc s k).length ≤ 12 * s.size + 49 := by
  have h1 := qMid_len (sSt_mem s k)
  have h2 := (sSt_le s k).1
  have h3 := sSt_bd s k
  unfold qAcc
  rw [List.length_append, List.length_singleton]
  omega
theorem qAcc_next {s : ByteArray} {k : Nat} (h : (sSt s k).2 < s.size) : qAcc s (k + 1) = qAcc s k ++ qOne (sgN s (sSt s k).2) := by
  unfold qAcc
  rw [sSt_next h]
  simp only
  rw [qMid_snoc, List.append_assoc]
set_option maxHeartbeats 8000000 in
theorem quote_Quote (s : ByteArray) (w : World) (hs : s.size ≤ 200000) (hT : U8T w) (hZ : TzT w) :
    Calls Tryz.prog 32 #[.string s] w fun e w' => e = .returned (.string (strOf (quoteP s))) ∧ Below w.heap.size w w' := by
  have hs' : s.size ≤ 9223372036854775807 := by omega
  have HT := hid' hT
  have HZ := hid' hZ
  have HB0 := hid' (IsB.new_ w)
  have HL0 := hid' (bel_alloc (bel_refl w) (.cells #[.pointer none, .slice none 0 0] 64))
  have hqz := bL_len s
  clear hT hZ
  go_enter Tryz.func32, Tryz.ntmps32
  go_wp2_with fail
  refine (b_WriteByte w.heap.size w.heap.size _ 34 _ HB0.out (by simp) HL0.out.size).mono ?_
  rintro e w2 ⟨rfl, h1, h2, h3⟩
  have hws : w.heap.size < w2.heap.size := by
    obtain ⟨_, v, hb, _⟩ := h1
    exact (Array.getElem?_eq_some_iff.1 hb).1
  have HQ0 := hid' (show QSt w (w2.iter s 0) w2.heap.size s 0 [34] from ⟨by omega, It.new_ w2 s, IsB.below (UsedB.is h1) (bel_iter s 0), bel_then (HL0.out.trans h2) (bel_iter s 0)⟩)
  clear h1 h2 h3 HB0 HL0
  go_wp2
  generalize hit : w2.heap.size = it at *
  go_loopw [] (fun wr => ∃ k : Nat, QSt w wr it s (sSt s k).2 (qAcc s k)) (fun wr => s.size - wr.iterPos it)
  case atStart => exact ⟨0, HQ0.out⟩
  case round =>
    obtain ⟨k, hQ⟩ := hrel
    have hal := qAcc_len s k
    by_cases hlt : (sSt s k).2 < s.size
    · have hnxt := sSt_next hlt
      have hacc := qAcc_next hlt
      obtain ⟨p, hp⟩ : ∃ p, p = (sSt s k).2 := ⟨_, rfl⟩
      rw [← hp] at hlt hnxt hacc hQ
      have hnx : ∀ ty, (Instr.next (.pointer (some ⟨it, 0, none⟩)) true ty).run Tryz.prog wr = _ := fun ty => Lib.run_next_any_at wr it s p ty hQ.2.1 hlt
      have hsw := sgW_pos s p
      have hdl := dec_le s p
      have hQ2 := hQ.next (by omega) (p + sgW s p)
      have HMES := hid' (show ∀ W : World, It W it s (p + sgW s p) → s.size - W.iterPos it < s.size - wr.iterPos it from fun W hW => by
        have h1 : 1 ≤ sgW s p := hsw.1
        rw [hW.pos, hQ.2.1.pos]; omega)
      have HST := hid' (quote_stray s p _ hs hlt (HT.out.below hQ2.bel))
      have HQ2 := hid' hQ2
      have HNX := hid' (show (sSt s (k + 1)).2 = p + sgW s p by rw [hnxt])
      have HACC := hid' hacc
      obtain ⟨acc, hacc0⟩ : ∃ acc, acc = qAcc s k := ⟨_, rfl⟩
      rw [← hacc0] at HQ2 HACC hal
      change Hid (Calls _ _ _ (wr.iterAt it s (p + (Utf8.decode s p).2)) _) at HST
      have hq : (Utf8.decode s p).2 = sgW s p := rfl
      have hsgn : sgN s p = if strayAt s p = true then -(gb s p : Int) - 1 else ((Utf8.decode s p).1 : Int) := rfl
      rw [hq] at hnx HST
      obtain ⟨c, hc⟩ : ∃ c, c = (Utf8.decode s p).1 := ⟨_, rfl⟩
      rw [← hc] at hnx HST hdl hsgn
      have hpi : (p : Int) < (s.size : Int) := by omega
      clear hQ hQ2 hnxt hacc hacc0 hq hc hsw hp
      generalize sgW s p = q at *
      cases hst : strayAt s p with
      | true =>
        rw [hst] at HST hsgn
        rw [if_pos rfl] at hsgn
        have hg := gb_eq s p hlt
        have hgl := gb_lt s p
        have hgs : (s[p]'hlt).toNat = gb s p := hg.symm
        obtain ⟨g, hgg⟩ : ∃ g, g = gb s p := ⟨_, rfl⟩
        rw [← hgg] at hgs hgl hsgn
        have hone : qOne (sgN s p) = [92, 120] ++ hexL g := by
          unfold qOne
          rw [hsgn, if_pos (by omega)]
          congr 2
          omega
        have hxl := hexL_len 1 g (by omega)
        have HF := hid' (fun W hz => format16 g W (by omega) hz)
        have HONE := hid' hone
        have hxs : (strOf (hexL g)).size = (hexL g).length := rfl
        have hj : (2 : Int) + ((strOf (hexL g)).size : Int) ≤ 9223372036854775807 := by omega
        have hlen : acc.length + ((⟨#[92, 120]⟩ : ByteArray) ++ strOf (hexL g)).size ≤ 100000000 := by
          rw [ByteArray.size_append]
          show acc.length + (2 + (hexL g).length) ≤ _
          omega
        clear hst hsgn hg hgg hone hxs
        go_wp2_with (first
          | (go_at_call 64; refine HST.out.mono ?_; rintro e w3 ⟨rfl, hB3⟩; have hQ3 := HQ2.out.below hB3)
          | (go_at_call 65; refine (HF.out _ (HZ.out.below hQ3.bel)).mono ?_; rintro e w4 ⟨rfl, hB4⟩; have hQ4 := hQ3.below hB4))
        refine (hQ4.str _ hlen).mono ?_
        rintro e w5 ⟨⟨r, rfl⟩, hQ5⟩
        have hQ : QSt w w5 it s (p + q) (acc ++ qOne (sgN s p)) := by
          rw [HONE.out]
          have e9 : bL ((⟨#[92, 120]⟩ : ByteArray) ++ strOf (hexL g)) = [92, 120] ++ hexL g := by unfold bL strOf; rw [ByteArray.data_append]; simp
          rw [e9] at hQ5
          exact hQ5
        clear hQ3 hQ4 hQ5
        go_wp2
        go_roundw
        case rel => exact ⟨k + 1, by rw [HNX.out, HACC.out]; exact hQ⟩
        case measure => exact HMES.out _ hQ.2.1
      | false =>
        rw [hst] at HST hsgn
        rw [if_neg (by decide)] at hsgn
        by_cases h34 : c = 34 ∨ c = 92
        · have hone : qOne (sgN s p) = [92] ++ [UInt8.ofNat c] := by
            unfold qOne
            rw [hsgn, if_neg (by omega), if_pos (by omega)]
            simp
          have HONE := hid' hone
          have hc128 : c < 128 := by omega
          clear hst hsgn hone
          have hcc : ((c : Int) == 34) = true ∨ (((c : Int) == 34) = false ∧ ((c : Int) == 92) = true) := by
            rcases h34 with h | h
            · left; rw [beq_iff_eq]; omega
            · right; rw [beq_iff_eq, beq_eq_false_iff_ne]; omega
          clear h34
          rcases hcc with e1 | ⟨e1, e2⟩
          all_goals
            go_wp2_with fail
            refine HST.out.mono ?_
            rintro e w3 ⟨rfl, hB3⟩
            have hQ3 := HQ2.out.below hB3
            go_wp2_with fail
            refine (hQ3.byte 92 (by omega)).mono ?_
            rintro e w4 ⟨rfl, hQ4⟩
            go_wp2_with fail
            refine (hQ4.rune c hc128 (by rw [List.length_append, List.length_singleton]; omega)).mono ?_
            rintro e w5 ⟨⟨r, rfl⟩, hQ5⟩
            have hQ : QSt w w5 it s (p + q) (acc ++ qOne (sgN s p)) := by
              rw [HONE.out, ← List.append_assoc]; exact hQ5
            clear hQ3 hQ4 hQ5
            go_wp2
            go_roundw
            case rel => exact ⟨k + 1, by rw [HNX.out, HACC.out]; exact hQ⟩
            case measure => exact HMES.out _ hQ.2.1
        have e34 : ((c : Int) == 34) = false := by rw [beq_eq_false_iff_ne]; omega
        have e92 : ((c : Int) == 92) = false := by rw [beq_eq_false_iff_ne]; omega
        have HES := hid' (fun W => quote_escaped c W)
        by_cases hes : c < 32 ∨ 126 < c
        · have hone : qOne (sgN s p) = [92, 117, 123] ++ hexL c ++ [125] := by
            unfold qOne
            rw [hsgn, if_neg (by omega), if_neg (by omega), if_pos (by omega)]
            simp
          have hb : (decide (c < 32) || decide (126 < c)) = true := by
            rcases hes with h | h
            · rw [decide_eq_true h]; rfl
            · rw [decide_eq_true h, Bool.or_true]
          rw [hb] at HES
          have hxl := hexL_len 5 c (by omega)
          have HF := hid' (fun W hz => format16 c W (by omega) hz)
          have HONE := hid' hone
          have hxs : (strOf (hexL c)).size = (hexL c).length := rfl
          have hj : (3 : Int) + ((strOf (hexL c)).size : Int) + 1 ≤ 9223372036854775807 := by omega
          have hlen : acc.length + ((⟨#[92, 117, 123]⟩ : ByteArray) ++ strOf (hexL c) ++ ⟨#[125]⟩).size ≤ 100000000 := by
            rw [ByteArray.size_append, ByteArray.size_append]
            show acc.length + (3 + (hexL c).length + 1) ≤ _
            omega
          clear hst hsgn hone hxs hes hb h34
          go_wp2_with (first
            | (go_at_call 64; refine HST.out.mono ?_; rintro e w3 ⟨rfl, hB3⟩; have hQ3 := HQ2.out.below hB3)
            | (go_at_call 67; refine (HES.out _).mono ?_; rintro e w' ⟨rfl, rfl⟩)
            | (go_at_call 65; refine (HF.out _ (HZ.out.below hQ3.bel)).mono ?_; rintro e w4 ⟨rfl, hB4⟩; have hQ4 := hQ3.below hB4))
          refine (hQ4.str _ hlen).mono ?_
          rintro e w5 ⟨⟨r, rfl⟩, hQ5⟩
          have hQ : QSt w w5 it s (p + q) (acc ++ qOne (sgN s p)) := by
            rw [HONE.out]
            have e9 : bL ((⟨#[92, 117, 123]⟩ : ByteArray) ++ strOf (hexL c) ++ ⟨#[125]⟩) = [92, 117, 123] ++ hexL c ++ [125] := by unfold bL strOf; rw [ByteArray.data_append, ByteArray.data_append]; simp
            rw [e9] at hQ5
            exact hQ5
          clear hQ3 hQ4 hQ5
          go_wp2
          go_roundw
          case rel => exact ⟨k + 1, by rw [HNX.out, HACC.out]; exact hQ⟩
          case measure => exact HMES.out _ hQ.2.1
        · have hone : qOne (sgN s p) = [UInt8.ofNat c] := by
            unfold qOne
            rw [hsgn, if_neg (by omega), if_neg (by omega), if_neg (by omega)]
            simp
          have hb : (decide (c < 32) || decide (126 < c)) = false := by
            rw [decide_eq_false (by omega), decide_eq_false (by omega)]; rfl
          rw [hb] at HES
          have HONE := hid' hone
          have hc128 : c < 128 := by omega
          clear hst hsgn hone hes hb h34
          go_wp2_with (first
            | (go_at_call 64; refine HST.out.mono ?_; rintro e w3 ⟨rfl, hB3⟩; have hQ3 := HQ2.out.below hB3)
            | (go_at_call 67; refine (HES.out _).mono ?_; rintro e w' ⟨rfl, rfl⟩))
          refine (hQ3.rune c hc128 (by omega)).mono ?_
          rintro e w5 ⟨⟨r, rfl⟩, hQ5⟩
          have hQ : QSt w w5 it s (p + q) (acc ++ qOne (sgN s p)) := by
            rw [HONE.out]; exact hQ5
          clear hQ3 hQ5
          go_wp2
          go_roundw
          case rel => exact ⟨k + 1, by rw [HNX.out, HACC.out]; exact hQ⟩
          case measure => exact HMES.out _ hQ.2.1
    · have hnx : ∀ ty, (Instr.next (.pointer (some ⟨it, 0, none⟩)) true ty).run Tryz.prog wr = _ := fun ty => Lib.run_next_end_at wr it s _ ty hQ.2.1 hlt
      have he := sSt_end hlt
      have hqa : qAcc s k ++ [34] = quoteP s := by unfold qAcc quoteP; rw [he]
      have HQA := hid' hqa
      have HQ := hid' hQ
      clear hQ he hqa
      go_wp2_with fail
      refine (HQ.out.byte 34 (by omega)).mono ?_
      rintro e w3 ⟨rfl, hQ3⟩
      rw [HQA.out] at hQ3
      go_wp2_with fail
      refine (Tryz.Builder_String_any_k w.heap.size w.heap.size (quoteP s) _ hQ3.2.2.1 hQ3.bel.size).mono ?_
      rintro e w4 ⟨rfl, -, hb4, -⟩
      have hL := hQ3.bel.trans hb4
      clear hQ3 hb4
      go_wp2
      go_ret
      exact ⟨rfl, hL⟩
end Go.Proofs.YtockkjhciojgbaaGreatDoor
/- QuoteRef -/
/- A text in marks as the document says (tidewaiterref04.hex, Quote), walked. No condition. -/
namespace Go.Proofs.YtockkjhciojgbaaGreatDoor
set_option maxRecDepth 100000
set_option linter.unusedSimpArgs false
open Go.RowKit
set_option linter.unusedVariables false
set_option linter.unusedSimpArgs false

theorem strOf_app (a b : List UInt8) : strOf a ++ strOf b = strOf (a ++ b) := by
  unfold strOf; apply ByteArray.ext; rw [ByteArray.data_append]; simp
set_option maxHeartbeats 2000000 in
theorem ref04_hex : ∀ (n : Nat) (w : World), n < 4294967296 →
    Calls Tryz.prog 74 #[.int .i64 (n : Int)] w fun e w' => e = .returned (.string (strOf (hexL n))) ∧ Below w.heap.size w w' := by
  intro n
  induction n using Nat.strongRecOn with
  | ind n ih =>
    intro w hn
    obtain ⟨d, hd⟩ : ∃ d, d = n % 16 := ⟨_, rfl⟩
    have hd16 : d < 16 := by omega
    have hrem : (n : Int).tmod 16 = (d : Int) := by rw [Int.tmod_eq_emod_of_nonneg (by omega)]; omega
    obtain ⟨c, hc⟩ : ∃ c, c = (hexD d).toNat := ⟨_, rfl⟩
    have hcn := hexD_nat hd16
    rw [← hc] at hcn
    have hconv := convQ_one w c (by split at hcn <;> omega)
    have hxs : strOf [UInt8.ofNat c] = strOf [hexD d] := by rw [hc]; simp
    rw [hxs] at hconv
    have HB0 := hid' (bel_alloc (bel_refl w) (.cells #[.int .u8 (c : Int)] 5))
    clear hc hxs
    obtain ⟨st, hst⟩ : ∃ st, st = strOf (hexL n) := ⟨_, rfl⟩
    rw [← hst]
    by_cases h16 : n < 16
    · have hh : st = strOf [hexD d] := by rw [hst, hexL_lt h16, hd, Nat.mod_eq_of_lt h16]
      rw [← hh] at hconv
      clear hst hd hh ih
      by_cases h10 : d < 10
      · rw [if_pos h10] at hcn
        have hcc : (48 : Int) + (d : Int) = (c : Int) := by omega
        clear hcn
        go_enter Tryz.func74, Tryz.ntmps74
        go_wp2
        go_ret
        exact ⟨rfl, HB0.out⟩
      · rw [if_neg h10] at hcn
        have hcc : (97 : Int) + (d : Int) - 10 = (c : Int) := by omega
        clear hcn
        go_enter Tryz.func74, Tryz.ntmps74
        go_wp2
        go_ret
        exact ⟨rfl, HB0.out⟩
    · obtain ⟨m, hm⟩ : ∃ m, m = n / 16 := ⟨_, rfl⟩
      have hml := hexL_len 7 m (by omega)
      have hh : st = strOf (hexL m) ++ strOf [hexD d] := by rw [hst, hexL_ge h16, ← hd, ← hm, strOf_app]
      have hquo : (n : Int).tdiv 16 = (m : Int) := by rw [Int.tdiv_eq_ediv_of_nonneg (by omega)]; omega
      have hwm : wrap64 (m : Int) = (m : Int) := by unfold wrap64; omega
      have HI := hid' (fun W => ih m (by omega) W (by omega))
      have hsz : (strOf (hexL m)).size + (strOf [hexD d]).size ≤ 9223372036854775807 := by
        show (hexL m).length + 1 ≤ _
        omega
      rw [hh]
      clear hst hd hh ih hm hml
      generalize strOf [hexD d] = x at *
      generalize strOf (hexL m) = y at *
      by_cases h10 : d < 10
      · rw [if_pos h10] at hcn
        have hcc : (48 : Int) + (d : Int) = (c : Int) := by omega
        clear hcn
        go_enter Tryz.func74, Tryz.ntmps74
        go_wp2_with fail
        refine (HI.out _).mono ?_
        rintro e w2 ⟨rfl, hB⟩
        have HB := hid' (bel_then HB0.out hB)
        clear hB
        go_wp2
        go_ret
        refine ⟨?_, HB.out⟩
        go_simp
      · rw [if_neg h10] at hcn
        have hcc : (97 : Int) + (d : Int) - 10 = (c : Int) := by omega
        clear hcn
        go_enter Tryz.func74, Tryz.ntmps74
        go_wp2_with fail
        refine (HI.out _).mono ?_
        rintro e w2 ⟨rfl, hB⟩
        have HB := hid' (bel_then HB0.out hB)
        clear hB
        go_wp2
        go_ret
        refine ⟨?_, HB.out⟩
        go_simp
end Go.Proofs.YtockkjhciojgbaaGreatDoor
/- QuoteRefB -/
/- A text in marks as the document says (tidewaiterref04.Quote), walked. No condition. -/
namespace Go.Proofs.YtockkjhciojgbaaGreatDoor
set_option maxRecDepth 100000
set_option linter.unusedSimpArgs false
open Go.RowKit
set_option linter.unusedVariables false
set_option linter.unusedSimpArgs false

def qPre (s : ByteArray) (j : Nat) : ByteArray := strOf ([34] ++ qMid ((signs s).take j))
theorem qPre_next {s : ByteArray} {j : Nat} {n : Int} (h : (signs s)[j]? = some n) : qPre s (j + 1) = qPre s j ++ strOf (qOne n) := by
  unfold qPre
  rw [take_snoc' h, qMid_snoc, strOf_app, List.append_assoc]
theorem qPre_size (s : ByteArray) (j : Nat) : (qPre s j).size ≤ 12 * s.size + 1 := by
  have h1 := qMid_len (l := (signs s).take j) (fun n hn => sSt_mem s s.size n (List.mem_of_mem_take hn))
  have h2 := signs_len s
  have h3 : ((signs s).take j).length ≤ (signs s).length := by rw [List.length_take]; exact Nat.min_le_right _ _
  show ([34] ++ qMid _).length ≤ _
  rw [List.length_append, List.length_singleton]
  omega
theorem qPre_end (s : ByteArray) : qPre s (signs s).length ++ ⟨#[34]⟩ = strOf (quoteP s) := by
  unfold qPre quoteP
  rw [List.take_of_length_le (Nat.le_refl _)]
  exact strOf_app _ [34]
set_option maxHeartbeats 8000000 in
theorem ref04_Quote (s : ByteArray) (w : World) (hs : s.size ≤ 200000) :
    Calls Tryz.prog 37 #[.string s] w fun e w' => e = .returned (.string (strOf (quoteP s))) ∧ Below w.heap.size w w' := by
  have hlm := signs_len s
  have hend := qPre_end s
  have hps := qPre_size s
  obtain ⟨out, hout⟩ : ∃ out, out = strOf (quoteP s) := ⟨_, rfl⟩
  rw [← hout] at hend ⊢
  clear hout
  go_enter Tryz.func37, Tryz.ntmps37
  go_wp2_with fail
  refine (ref04_Signs s _ hs).mono ?_
  rintro e w1 ⟨v, rfl, hO, hB1⟩
  obtain ⟨A, c, rfl, -, -, hr⟩ := own_rd hO
  obtain ⟨m, hm⟩ : ∃ m, m = (signs s).length := ⟨_, rfl⟩
  rw [← hm] at hlm hend ⊢
  have HM := hid' hm
  have HR := hid' hr
  have HB1 := hid' hB1
  have HEND := hid' hend
  have HPS := hid' hps
  clear hO hr hm hB1 hend hps
  go_wp2
  go_loopw [3, 5] (fun v3 v5 wr => ∃ j : Nat, j ≤ m ∧ v3 = .string (qPre s j) ∧ v5 = .int .i64 j ∧ Below w1.heap.size w1 wr) (fun _ v5 _ => m - (intOf v5).toNat)
  case atStart => exact ⟨0, Nat.zero_le _, rfl, rfl, bel_refl _⟩
  case round =>
    obtain ⟨j, hj, rfl, rfl, hL⟩ := hrel
    have HL := hid' hL
    have hts := HPS.out j
    by_cases hlt : j < m
    · obtain ⟨n, hx⟩ : ∃ n, (signs s)[j]? = some n := ⟨_, List.getElem?_eq_getElem (by rw [← HM.out]; exact hlt)⟩
      obtain ⟨ad, rfl, hc⟩ := (HR.out.below hL) j (.int .i64 n) (by rw [List.getElem?_map, hx]; rfl)
      have hacc := qPre_next hx
      have hbd := sSt_mem s s.size n (List.mem_of_getElem? hx)
      obtain ⟨t, ht⟩ : ∃ t, t = qPre s j := ⟨_, rfl⟩
      rw [← ht] at hts hacc ⊢
      clear hx ht hL
      by_cases h0 : n < 0
      · obtain ⟨g, hg⟩ : ∃ g : Nat, -n - 1 = (g : Int) := ⟨(-n - 1).toNat, by omega⟩
        have hg256 : g < 256 := by omega
        have hone : qOne n = [92, 120] ++ hexL g := by
          unfold qOne
          rw [if_pos h0]
          congr 2
          omega
        rw [hone, ← strOf_app] at hacc
        have hxl := hexL_len 1 g (by omega)
        have hxs : (strOf (hexL g)).size = (hexL g).length := rfl
        have hfin : (qPre s (j + 1)) = t ++ ⟨#[92, 120]⟩ ++ strOf (hexL g) := by
          rw [hacc]
          apply ByteArray.ext; simp [ByteArray.data_append]; rfl
        have HACC := hid' hfin
        have hwg : wrap64 (g : Int) = (g : Int) := by unfold wrap64; omega
        have HX := hid' (fun W => ref04_hex g W (by omega))
        have hsz1 : t.size + 2 ≤ 9223372036854775807 := by omega
        have hsz2 : (t ++ ⟨#[92, 120]⟩).size + (strOf (hexL g)).size ≤ 9223372036854775807 := by rw [ByteArray.size_append]; show t.size + 2 + _ ≤ _; omega
        clear hone hacc hxl hxs hfin
        go_wp2_with fail
        refine (HX.out _).mono ?_
        rintro e w3 ⟨rfl, hB3⟩
        have HL3 := hid' (bel_then HL.out hB3)
        clear hB3
        go_wp2
        go_roundw
        case rel => exact ⟨j + 1, by omega, by rw [HACC.out], by go_num, HL3.out⟩
        case measure => simp [intOf]; omega
      · obtain ⟨q, rfl⟩ : ∃ q : Nat, n = (q : Int) := ⟨n.toNat, by omega⟩
        have hq1 : q ≤ 1114111 := by omega
        have hd0 : decide ((q : Int) < 0) = false := by rw [decide_eq_false_iff_not]; omega
        by_cases h34 : q = 34 ∨ q = 92
        · have hone : qOne (q : Int) = [92] ++ [UInt8.ofNat q] := by
            unfold qOne
            rw [if_neg (by omega), if_pos (by omega)]
            simp
          rw [hone, ← strOf_app] at hacc
          have hfin : (qPre s (j + 1)) = t ++ ⟨#[92]⟩ ++ strOf [UInt8.ofNat q] := by
            rw [hacc]
            apply ByteArray.ext; simp [ByteArray.data_append]; rfl
          have HACC := hid' hfin
          have hq128 : q < 256 := by omega
          have hconv := convQ_one wr q hq128
          have HL3 := hid' (bel_then HL.out (bel_alloc (bel_refl wr) (.cells #[.int .u8 (q : Int)] 5)))
          have hsz1 : t.size + 1 ≤ 9223372036854775807 := by omega
          have hsz2 : (t ++ ⟨#[92]⟩).size + (strOf [UInt8.ofNat q]).size ≤ 9223372036854775807 := by rw [ByteArray.size_append]; show t.size + 1 + 1 ≤ _; omega
          have hcc : ((q : Int) == 34) = true ∨ (((q : Int) == 34) = false ∧ ((q : Int) == 92) = true) := by
            rcases h34 with h | h
            · left; rw [beq_iff_eq]; omega
            · right; rw [beq_iff_eq, beq_eq_false_iff_ne]; omega
          clear hone hacc hfin h34
          generalize strOf [UInt8.ofNat q] = x at *
          rcases hcc with e1 | ⟨e1, e2⟩
          all_goals
            go_wp2
            go_roundw
            case rel => exact ⟨j + 1, by omega, by rw [HACC.out], by go_num, HL3.out⟩
            case measure => simp [intOf]; omega
        · have e34 : ((q : Int) == 34) = false := by rw [beq_eq_false_iff_ne]; omega
          have e92 : ((q : Int) == 92) = false := by rw [beq_eq_false_iff_ne]; omega
          by_cases hes : q < 32 ∨ 126 < q
          · have hone : qOne (q : Int) = [92, 117, 123] ++ hexL q ++ [125] := by
              unfold qOne
              rw [if_neg (by omega), if_neg (by omega), if_pos (by omega)]
              simp
            rw [hone, ← strOf_app, ← strOf_app] at hacc
            have hxl := hexL_len 5 q (by omega)
            have hxs : (strOf (hexL q)).size = (hexL q).length := rfl
            have hfin : (qPre s (j + 1)) = t ++ ⟨#[92, 117, 123]⟩ ++ strOf (hexL q) ++ ⟨#[125]⟩ := by
              rw [hacc]
              apply ByteArray.ext; simp [ByteArray.data_append]; rfl
            have HACC := hid' hfin
            have hwg : wrap64 (q : Int) = (q : Int) := by unfold wrap64; omega
            have HX := hid' (fun W => ref04_hex q W (by omega))
            generalize strOf (hexL q) = x at *
            have hsz4 : t.size + 3 + x.size + 1 ≤ 9223372036854775807 := by omega
            have hsz1 : t.size + 3 ≤ 9223372036854775807 := by omega
            have hsz2 : (t ++ ⟨#[92, 117, 123]⟩).size + x.size ≤ 9223372036854775807 := by rw [ByteArray.size_append]; show t.size + 3 + _ ≤ _; omega
            have hsz3 : (t ++ ⟨#[92, 117, 123]⟩ ++ x).size + 1 ≤ 9223372036854775807 := by rw [ByteArray.size_append, ByteArray.size_append]; show t.size + 3 + _ + 1 ≤ _; omega
            have hcc : decide ((q : Int) < 32) = true ∨ (decide ((q : Int) < 32) = false ∧ decide ((126 : Int) < (q : Int)) = true) := by
              rcases hes with h | h
              · left; rw [decide_eq_true_iff]; omega
              · by_cases h2 : q < 32
                · left; rw [decide_eq_true_iff]; omega
                · right; rw [decide_eq_true_iff, decide_eq_false_iff_not]; omega
            clear hone hacc hxl hxs hfin h34 hes
            rcases hcc with e1 | ⟨e1, e2⟩
            all_goals
              go_wp2_with fail
              refine (HX.out _).mono ?_
              rintro e w3 ⟨rfl, hB3⟩
              have HL3 := hid' (bel_then HL.out hB3)
              clear hB3
              go_wp2
              go_roundw
              case rel => exact ⟨j + 1, by omega, by rw [HACC.out], by go_num, HL3.out⟩
              case measure => simp [intOf]; omega
          · have hone : qOne (q : Int) = [UInt8.ofNat q] := by
              unfold qOne
              rw [if_neg (by omega), if_neg (by omega), if_neg (by omega)]
              simp
            rw [hone] at hacc
            have HACC := hid' hacc
            have hq128 : q < 256 := by omega
            have hconv := convQ_one wr q hq128
            have HL3 := hid' (bel_then HL.out (bel_alloc (bel_refl wr) (.cells #[.int .u8 (q : Int)] 5)))
            have hsz1 : t.size + (strOf [UInt8.ofNat q]).size ≤ 9223372036854775807 := by show t.size + 1 ≤ _; omega
            have e32 : decide ((q : Int) < 32) = false := by rw [decide_eq_false_iff_not]; omega
            have e126 : decide ((126 : Int) < (q : Int)) = false := by rw [decide_eq_false_iff_not]; omega
            clear hone hacc hes h34
            generalize strOf [UInt8.ofNat q] = x at *
            go_wp2
            go_roundw
            case rel => exact ⟨j + 1, by omega, by rw [HACC.out], by go_num, HL3.out⟩
            case measure => simp [intOf]; omega
    · have he : j = m := by omega
      subst he
      have hen := HEND.out
      obtain ⟨t, ht⟩ : ∃ t, t = qPre s j := ⟨_, rfl⟩
      rw [← ht] at hts hen ⊢
      have HEN := hid' hen
      have HL3 := hid' (bel_then HB1.out hL)
      have hsz1 : t.size + 1 ≤ 9223372036854775807 := by omega
      clear ht hL hen
      go_wp2
      go_ret
      refine ⟨?_, HL3.out⟩
      rw [← HEN.out]
      go_simp
end Go.Proofs.YtockkjhciojgbaaGreatDoor
/- UnquoteW -/
/- What is between marks, read (quote.Unquote), walked. No condition but the tables and variables of Go's own library. -/
namespace Go.Proofs.YtockkjhciojgbaaGreatDoor
set_option maxRecDepth 100000
set_option linter.unusedSimpArgs false
open Go.RowKit
set_option linter.unusedVariables false
set_option linter.unusedSimpArgs false

theorem enc_le4 (n : Int) : (Lib.encodeRune n).length ≤ 4 := by
  unfold Lib.encodeRune
  rw [List.length_map]
  exact (Lib.encodeRuneZ_length n).2
theorem piece_le (l : List UInt8) (h : l ≠ []) : (pieceP l).1.length ≤ (pieceP l).2 ∧ (pieceP l).2 ≤ l.length := by
  have hl : 1 ≤ l.length := by cases l with | nil => exact absurd rfl h | cons a l => simp
  unfold pieceP
  split
  · constructor
    · show (l.take 1).length ≤ 1
      rw [List.length_take]; omega
    · exact hl
  · split
    · rename_i h1
      constructor
      · show ((l.drop 1).take 1).length ≤ 2
        rw [List.length_take]; omega
      · exact h1.1
    · split
      · rename_i h1
        split
        · exact ⟨Nat.le_add_left 1 3, h1.1⟩
        · exact ⟨by decide, Nat.zero_le _⟩
      · split
        · rename_i h3
          split
          · rename_i hm
            have hi := idx_ge3 h3 hm
            split
            · have := enc_le4 (by assumption : Nat)
              rename_i n _
              have := enc_le4 (n : Int)
              exact ⟨by simp only; omega, hi.2⟩
            · exact ⟨by decide, Nat.zero_le _⟩
          · exact ⟨by decide, Nat.zero_le _⟩
        · exact ⟨by decide, Nat.zero_le _⟩
def USt (w0 W : World) (l : List UInt8) : Prop := IsB w0.heap.size w0.heap.size (Lib.byteCells l) W ∧ Below w0.heap.size w0 W
section
variable {w0 W W' : World} {l : List UInt8}
theorem USt.below (h : USt w0 W l) (hb : Below W.heap.size W W') : USt w0 W' l := ⟨IsB.below h.1 hb, bel_then h.2 hb⟩
theorem USt.new_ (w : World) : USt w (w.alloc (.cells #[.pointer none, .slice none 0 0] 64)) [] := ⟨IsB.new_ w, bel_alloc (bel_refl w) _⟩
theorem USt.str (h : USt w0 W l) (x : ByteArray) (hl : l.length + x.size ≤ 100000000) :
    Calls Tryz.prog 30 #[.pointer (some ⟨w0.heap.size, 0, none⟩), .string x] W fun e w' => (∃ r, e = .returned (.tuple #[.int .i64 r, .nilIface])) ∧ USt w0 w' (l ++ bL x) :=
  (b_WriteString w0.heap.size w0.heap.size _ x W h.1 (by rw [bc_len]; omega) h.2.size).mono fun e w' ⟨he, h1, h2, h3⟩ => ⟨⟨_, he⟩, UsedB.is (by rw [bc_app]; exact h1), h.2.trans h2⟩
theorem USt.string (h : USt w0 W l) :
    Calls Tryz.prog 34 #[.pointer (some ⟨w0.heap.size, 0, none⟩)] W fun e w' => e = .returned (.string (strOf l)) ∧ USt w0 w' l :=
  (Tryz.Builder_String_any_k w0.heap.size w0.heap.size l _ h.1 h.2.size).mono fun e w' h2 => ⟨h2.1, by
    obtain ⟨-, h3, h4, -⟩ := h2
    exact ⟨h3, h.2.trans h4⟩⟩
end
def strSize (v : Value) : Nat := match v with | .string s => s.size | _ => 0
def uS (o : Option (List UInt8)) : ByteArray := match o with | some x => strOf x | none => ⟨#[]⟩
def uB (o : Option (List UInt8)) : Bool := o.isSome
def uRes (q : List UInt8) (R : Option (List UInt8)) : Option (List UInt8) := match R with | none => none | some x => if quoteP ⟨x.toArray⟩ = q then some x else none
theorem unqP_no {q : ByteArray} (h : q.size < 2 ∨ gb q 0 ≠ 34 ∨ gb q (q.size - 1) ≠ 34) : unqP (bL q) = none := by
  unfold unqP
  rw [if_pos]
  rw [bL_len]
  by_cases h2 : q.size < 2
  · exact .inl h2
  · rcases h with h | h | h
    · exact absurd h h2
    · exact .inr (.inl fun e => h ((getD_is q 0 (by omega) 34 (by decide)).1 e))
    · exact .inr (.inr fun e => h ((getD_is q _ (by omega) 34 (by decide)).1 e))
theorem unqP_go {q : ByteArray} (h2 : ¬ q.size < 2) (h0 : gb q 0 = 34) (h1 : gb q (q.size - 1) = 34) : unqP (bL q) = uRes (bL q) (unqGo q.size [] (bL (q.extract 1 (q.size - 1)))) := by
  unfold unqP
  rw [if_neg, bL_len, bL_ext, Nat.sub_sub]
  · rfl
  · rw [bL_len]
    rintro (h | h | h)
    · exact h2 h
    · exact h ((getD_is q 0 (by omega) 34 (by decide)).2 h0)
    · exact h ((getD_is q _ (by omega) 34 (by decide)).2 h1)
theorem unqGo_end (f : Nat) (acc : List UInt8) : unqGo f acc [] = some acc := by
  cases f <;> rfl
set_option maxHeartbeats 8000000 in
theorem quote_Unquote (q : ByteArray) (w : World) (hs : q.size ≤ 40000) (hT : U8T w) (hZ : TzT w) (hE : ErT w) :
    Calls Tryz.prog 69 #[.string q] w fun e w' => e = .returned (.tuple #[.string (uS (unqP (bL q))), .bool (uB (unqP (bL q)))]) ∧ Below w.heap.size w w' := by
  have hs' : q.size ≤ 9223372036854775807 := by omega
  by_cases h2 : q.size < 2
  · have hno := unqP_no (q := q) (.inl h2)
    have hN := hno
    have hb0 := bel_refl w
    have h9 : uS (unqP (bL q)) = ⟨#[]⟩ ∧ uB (unqP (bL q)) = false := by rw [hN]; exact ⟨rfl, rfl⟩
    rw [h9.1, h9.2]
    clear hN h9 hno
    go_enter Tryz.func69, Tryz.ntmps69
    go_wp2
    go_ret2
    exact ⟨rfl, hb0⟩
  · have hgs0 : (q[0]'(by omega)).toNat = gb q 0 := (gb_eq q 0 (by omega)).symm
    obtain ⟨m, hm⟩ : ∃ m, m = q.size - 1 := ⟨_, rfl⟩
    have hmi : (q.size : Int) - 1 = (m : Int) := by omega
    have hmn : m < q.size := by omega
    have hml : m + 1 = q.size := by omega
    have hmq : (m : Int) < (q.size : Int) := by omega
    have hno : gb q 0 ≠ 34 ∨ gb q m ≠ 34 → unqP (bL q) = none := by rw [hm]; exact fun h => unqP_no (.inr h)
    have hgo := fun h0 h1 => unqP_go h2 h0 (show gb q (q.size - 1) = 34 by rw [← hm]; exact h1)
    rw [← hm] at hgo
    clear hm
    have hgs1 : (q[m]'hmn).toNat = gb q m := (gb_eq q m hmn).symm
    obtain ⟨a, ha⟩ : ∃ a, a = gb q 0 := ⟨_, rfl⟩
    obtain ⟨b, hb⟩ : ∃ b, b = gb q m := ⟨_, rfl⟩
    rw [← ha] at hgs0 hno hgo
    rw [← hb] at hgs1 hno hgo
    have hal := gb_lt q 0
    have hbl := gb_lt q m
    rw [← ha] at hal
    rw [← hb] at hbl
    clear ha hb
    by_cases h0 : a = 34
    · by_cases h1 : b = 34
      · have HGO := hid' (hgo h0 h1)
        clear hgo hno
        have e0 : ((a : Int) != 34) = false := by rw [h0]; rfl
        have e1 : ((b : Int) != 34) = false := by rw [h1]; rfl
        obtain ⟨R, hR⟩ : ∃ R, R = unqGo q.size [] (bL (q.extract 1 m)) := ⟨_, rfl⟩
        rw [← hR] at HGO
        have hsz : (q.extract 1 m).size ≤ q.size := by rw [ByteArray.size_extract]; omega
        have HR := hid' hR
        have HT := hid' hT
        have HZ := hid' hZ
        have HE := hid' hE
        have HU0 := hid' (USt.new_ w)
        clear hR hT hZ hE h0 h1
        have hm1 : (1 : Int) ≤ (m : Int) := by omega
        have hmle : (m : Int) ≤ (q.size : Int) := by omega
        go_enter Tryz.func69, Tryz.ntmps69
        go_wp2
        go_loopw [5] (fun v5 wr => ∃ (r : ByteArray) (acc : List UInt8) (f : Nat), v5 = .string r ∧ USt w wr acc ∧ unqGo f acc (bL r) = R ∧ r.size ≤ f ∧ acc.length + r.size ≤ q.size) (fun v5 _ => strSize v5)
        case atStart => exact ⟨q.extract 1 m, [], q.size, rfl, HU0.out, HR.out.symm, hsz, by simpa using hsz⟩
        case round =>
          obtain ⟨r, acc, f, rfl, hU, hun, hrf, hal'⟩ := hrel
          by_cases hr0 : r.size = 0
          · have hre : r = ⟨#[]⟩ := ByteArray.ext (Array.eq_empty_of_size_eq_zero hr0)
            subst hre
            have hun2 : unqGo f acc [] = R := hun
            rw [unqGo_end] at hun2
            have HRR := hid' hun2
            have HU := hid' hU
            clear hun hU hun2
            obtain ⟨x, hx⟩ : ∃ x, x = strOf acc := ⟨_, rfl⟩
            have hxs : x.size ≤ 200000 := by
              rw [hx]
              show acc.length ≤ _
              have h0 : (⟨#[]⟩ : ByteArray).size = 0 := rfl
              rw [h0] at hal'
              omega
            have HQ := hid' (fun W hT hZ => quote_Quote x W hxs hT hZ)
            have HST := hid' (fun W h => (show Calls _ _ _ W _ from USt.string (w0 := w) (W := W) (l := acc) h))
            obtain ⟨t, ht⟩ : ∃ t, t = strOf (quoteP x) := ⟨_, rfl⟩
            rw [← hx] at HST
            rw [← ht] at HQ
            by_cases htq : t = q
            · have hfin : uS (unqP (bL q)) = x ∧ uB (unqP (bL q)) = true := by
                rw [HGO.out, ← HRR.out]
                show uS (if quoteP ⟨acc.toArray⟩ = bL q then some acc else none) = _ ∧ uB (if quoteP ⟨acc.toArray⟩ = bL q then some acc else none) = _
                rw [if_pos (by rw [← htq, ht, bL_str, hx]; rfl), hx]
                exact ⟨rfl, rfl⟩
              have HF := hid' hfin
              clear hfin ht hx hxs
              subst htq
              go_wp2_with fail
              refine (HST.out _ HU.out).mono ?_
              rintro e w2 ⟨rfl, hU2⟩
              go_wp2_with fail
              refine (HQ.out _ (HT.out.below hU2.2) (HZ.out.below hU2.2)).mono ?_
              rintro e w3 ⟨rfl, hB3⟩
              have hU3 := hU2.below hB3
              go_wp2_with fail
              refine (HST.out _ hU3).mono ?_
              rintro e w4 ⟨rfl, hU4⟩
              go_wp2
              go_ret2
              exact ⟨by rw [HF.out.1, HF.out.2]; rfl, hU4.2⟩
            · have hfin : uS (unqP (bL q)) = ⟨#[]⟩ ∧ uB (unqP (bL q)) = false := by
                rw [HGO.out, ← HRR.out]
                show uS (if quoteP ⟨acc.toArray⟩ = bL q then some acc else none) = _ ∧ uB (if quoteP ⟨acc.toArray⟩ = bL q then some acc else none) = _
                rw [if_neg (by
                  intro h
                  apply htq
                  rw [ht, hx]
                  apply bL_inj
                  rw [bL_str]; exact h)]
                exact ⟨rfl, rfl⟩
              have HF := hid' hfin
              have hne := strNe htq
              clear hfin ht hx hxs htq
              go_wp2_with fail
              refine (HST.out _ HU.out).mono ?_
              rintro e w2 ⟨rfl, hU2⟩
              go_wp2_with fail
              refine (HQ.out _ (HT.out.below hU2.2) (HZ.out.below hU2.2)).mono ?_
              rintro e w3 ⟨rfl, hB3⟩
              have hU3 := hU2.below hB3
              go_wp2
              go_ret2
              exact ⟨by rw [HF.out.1, HF.out.2]; rfl, hU3.2⟩
          · have hrne : bL r ≠ [] := by
              intro e
              have := congrArg List.length e
              rw [bL_len] at this
              exact hr0 this
            have hpl := piece_le (bL r) hrne
            rw [bL_len] at hpl
            obtain ⟨g, rfl⟩ : ∃ g, f = g + 1 := ⟨f - 1, by omega⟩
            have hun2 : (if (pieceP (bL r)).2 = 0 then none else unqGo g (acc ++ (pieceP (bL r)).1) ((bL r).drop (pieceP (bL r)).2)) = R := by
              rw [← hun]
              conv => rhs; unfold unqGo
              rw [if_neg hrne]
            have HP := hid' (quote_piece r wr (by omega) (by omega) (HE.out.below hU.2))
            have hres : r.toList.isEmpty = false := by
              rw [ByteArray.toList_eq, List.isEmpty_eq_false_iff]; exact hrne
            have hdr : (bL r).drop (pieceP (bL r)).2 = bL (r.extract (pieceP (bL r)).2 r.size) := by
              rw [bL_ext, List.take_of_length_le (by rw [List.length_drop, bL_len]; omega)]
            rw [hdr] at hun2
            have hU' := hid' hU
            clear hun hrne hdr hU
            generalize (pieceP (bL r)).1 = P at *
            generalize (pieceP (bL r)).2 = n at *
            by_cases hn0 : n = 0
            · rw [if_pos hn0] at hun2
              have hfin : uS (unqP (bL q)) = ⟨#[]⟩ ∧ uB (unqP (bL q)) = false := by
                rw [HGO.out, ← hun2]
                exact ⟨rfl, rfl⟩
              have HF := hid' hfin
              subst hn0
              clear hfin hun2
              go_wp2_with fail
              refine HP.out.mono ?_
              rintro e w2 ⟨rfl, hB2⟩
              have hU2 := hU'.out.below hB2
              go_wp2
              go_ret2
              exact ⟨by rw [HF.out.1, HF.out.2]; rfl, hU2.2⟩
            · rw [if_neg hn0] at hun2
              have HUN := hid' hun2
              have hnn : ((n : Int) == 0) = false := by rw [beq_eq_false_iff_ne]; omega
              have hPz : (strOf P).size = P.length := rfl
              have hst := hid' (fun W h => (show Calls _ _ _ W _ from USt.str (w0 := w) (W := W) (l := acc) h (strOf P) (by rw [hPz]; omega)))
              have hnr : (n : Int) ≤ (r.size : Int) := by omega
              have hsz2 : (r.extract n r.size).size = r.size - n := by rw [ByteArray.size_extract]; omega
              have HS2 := hid' hsz2
              have hrq : r.size ≤ 9223372036854775807 := by omega
              clear hun2 hPz hsz2
              go_wp2_with fail
              refine HP.out.mono ?_
              rintro e w2 ⟨rfl, hB2⟩
              have hU2 := hU'.out.below hB2
              go_wp2_with fail
              refine (hst.out _ hU2).mono ?_
              rintro e w3 ⟨⟨r3, rfl⟩, hU3⟩
              go_wp2
              go_roundw
              case rel => exact ⟨_, _, g, rfl, by rw [bL_str] at hU3; exact hU3, HUN.out, by rw [HS2.out]; omega, by rw [HS2.out, List.length_append]; omega⟩
              case measure => exact (by show (r.extract n r.size).size < r.size; rw [HS2.out]; omega)
      · replace hno := hno (.inr h1)
        clear hgo
        have hN := hno
        have hb0 := bel_refl w
        have h9 : uS (unqP (bL q)) = ⟨#[]⟩ ∧ uB (unqP (bL q)) = false := by rw [hN]; exact ⟨rfl, rfl⟩
        rw [h9.1, h9.2]
        clear hN h9 hno
        have e1 : ((b : Int) != 34) = true := by rw [bne_iff_ne]; omega
        have e0 : ((a : Int) != 34) = false := by rw [h0]; rfl
        clear h0 h1
        go_enter Tryz.func69, Tryz.ntmps69
        go_wp2
        go_ret2
        exact ⟨rfl, hb0⟩
    · replace hno := hno (.inl h0)
      clear hgo
      have hN := hno
      have hb0 := bel_refl w
      have h9 : uS (unqP (bL q)) = ⟨#[]⟩ ∧ uB (unqP (bL q)) = false := by rw [hN]; exact ⟨rfl, rfl⟩
      rw [h9.1, h9.2]
      clear hN h9 hno
      have h34 : ((a : Int) != 34) = true := by rw [bne_iff_ne]; omega
      clear h0
      go_enter Tryz.func69, Tryz.ntmps69
      go_wp2
      go_ret2
      exact ⟨rfl, hb0⟩
end Go.Proofs.YtockkjhciojgbaaGreatDoor
