
/- Texts in marks: there and back: the plain law. No program. -/
import Derived.Test.YtioaijjmialdoaaDoorQuotePure
import Derived.Lib.TrimAscii
namespace Go.Proofs.YtioaijjmialdoaaDoor
set_option maxRecDepth 100000
set_option linter.unusedSimpArgs false
set_option linter.unusedVariables false
set_option linter.unusedSimpArgs false

theorem sSt_lenk (s : ByteArray) : ∀ k, k ≤ (signs s).length → (sSt s k).1.length = k := by
  intro k
  induction k with
  | zero => intro _; rfl
  | succ k ih =>
    intro hk
    have h := ih (by omega)
    by_cases hlt : (sSt s k).2 < s.size
    · show (sStep s (sSt s k)).1.length = k + 1
      unfold sStep
      rw [if_pos hlt]
      simp [h]
    · have := sSt_end hlt
      rw [this] at h
      omega
theorem signs_drop (s : ByteArray) {k : Nat} (hlt : (sSt s k).2 < s.size) (hk : (sSt s k).1.length = k) : (signs s).drop k = sgN s (sSt s k).2 :: (signs s).drop (k + 1) := by
  have hm := sgN_mem hlt
  have hks : k + 1 ≤ s.size := by
    have := (sSt_le s k).1
    omega
  obtain ⟨l, hl⟩ := sSt_more s (k + 1) (s.size - (k + 1))
  rw [show k + 1 + (s.size - (k + 1)) = s.size by omega] at hl
  have h1 : (sSt s (k + 1)).1 = (sSt s k).1 ++ [sgN s (sSt s k).2] := by
    show (sStep s (sSt s k)).1 = _
    unfold sStep; rw [if_pos hlt]
  have hs : signs s = ((sSt s k).1 ++ [sgN s (sSt s k).2]) ++ l := by unfold signs; rw [hl, h1]
  have h2 : ∀ (A : List Int) (x : Int), (A ++ [x] ++ l).drop A.length = x :: (A ++ [x] ++ l).drop (A.length + 1) := by
    intro A x
    rw [List.append_assoc, List.drop_left, ← List.append_assoc, show A.length + 1 = (A ++ [x]).length by simp, List.drop_left]
    rfl
  have h3 := h2 (sSt s k).1 (sgN s (sSt s k).2)
  rw [hk] at h3
  rw [hs]
  exact h3
def bL (s : ByteArray) : List UInt8 := s.data.toList
theorem bL_len (s : ByteArray) : (bL s).length = s.size := by unfold bL; rw [Array.length_toList]; rfl
theorem bL_get (s : ByteArray) (p : Nat) (h : p < s.size) : (bL s).drop p = UInt8.ofNat (gb s p) :: (bL s).drop (p + 1) := by
  have hl : p < (bL s).length := by rw [bL_len]; exact h
  rw [List.drop_eq_getElem_cons hl]
  congr 1
  rw [gb_eq s p h]
  simp
  rfl
/-- the bytes of one sign -/
theorem sign_bytes (s : ByteArray) (p : Nat) (h : p < s.size) (rest : List UInt8) :
    pieceP (qOne (sgN s p) ++ rest) = (((bL s).drop p).take (sgW s p), (qOne (sgN s p)).length) := by
  have hne : (bL s).drop p ≠ [] := by
    intro e
    have := congrArg List.length e
    rw [List.length_drop, bL_len] at this
    simp at this; omega
  have hdl := Lib.decodeL_drop s p
  by_cases hst : strayAt s p = true
  · have hn : sgN s p = -(gb s p : Int) - 1 := by unfold sgN; rw [if_pos hst]
    have hw := stray_w hst
    have hgl := gb_lt s p
    have hge : 128 ≤ gb s p := by
      apply Classical.byContradiction
      intro hlt
      have h1 := Lib.decodeL_ascii (UInt8.ofNat (gb s p)) ((bL s).drop (p + 1)) (by simp; omega)
      rw [← bL_get s p h] at h1
      unfold bL at h1
      rw [hdl] at h1
      unfold strayAt at hst
      rw [h1, beq_iff_eq] at hst
      have := congrArg Prod.fst hst
      simp at this
      omega
    rw [piece_stray (by rw [hn]; omega) (by rw [hn]; omega), hw, hn, bL_get s p h]
    congr 2
    congr 1
    omega
  · have hn : sgN s p = ((Utf8.decode s p).1 : Int) := by unfold sgN; rw [if_neg hst]
    have hw : sgW s p = (Utf8.decode s p).2 := rfl
    have hed := Lib.encode_decode ((bL s).drop p) hne (by
      show ¬ ((Lib.decodeL (s.data.toList.drop p)).1 = 65533 ∧ (Lib.decodeL (s.data.toList.drop p)).2 = 1)
      rw [hdl]
      rintro ⟨h1, h2⟩
      apply hst
      unfold strayAt
      rw [beq_iff_eq]
      exact Prod.ext h1 h2)
    unfold bL at hed ⊢
    rw [hdl, ← hn, ← hw] at hed
    have hle := dec_le s p
    rw [← hed]
    have hbd := sgN_bd s p
    have h0 : 0 ≤ sgN s p := by rw [hn]; omega
    have hone : sgN s p ≤ 127 → Lib.encodeRune (sgN s p) = [UInt8.ofNat (sgN s p).toNat] := fun h1 => by
      unfold Lib.encodeRune
      rw [Lib.encodeRuneZ_one h0 h1]
      rfl
    by_cases h34 : sgN s p = 34 ∨ sgN s p = 92
    · rw [piece_mark h34, hone (by omega)]
    · by_cases hpl : sgN s p < 32 ∨ 126 < sgN s p
      · rw [piece_uni h0 hpl hbd.2]
      · rw [piece_plain (by omega) (by omega) (by omega) (by omega), hone (by omega)]
theorem unq_back (s : ByteArray) : ∀ d k f, (signs s).length = k + d → d ≤ f → unqGo f ((bL s).take (sSt s k).2) (qMid ((signs s).drop k)) = some (bL s) := by
  intro d
  induction d with
  | zero =>
    intro k f hk hf
    have hnl : ¬ (sSt s k).2 < s.size := by
      intro hlt
      have h1 := signs_drop s hlt (sSt_lenk s k (by omega))
      have h2 := congrArg List.length h1
      rw [List.length_drop] at h2
      simp at h2; omega
    have hd : (signs s).drop k = [] := by rw [List.drop_of_length_le (by omega)]
    rw [hd]
    have ht : (bL s).take (sSt s k).2 = bL s := List.take_of_length_le (by rw [bL_len]; omega)
    rw [ht]
    cases f with
    | zero => rfl
    | succ f => rfl
  | succ d ih =>
    intro k f hk hf
    have hlk := sSt_lenk s k (by omega)
    have hlt : (sSt s k).2 < s.size := by
      apply Classical.byContradiction
      intro h
      have := sSt_end h
      rw [this] at hlk
      omega
    obtain ⟨f, rfl⟩ : ∃ g, f = g + 1 := ⟨f - 1, by omega⟩
    have hd := signs_drop s hlt hlk
    have hm : qMid ((signs s).drop k) = qOne (sgN s (sSt s k).2) ++ qMid ((signs s).drop (k + 1)) := by rw [hd]; rfl
    have hpos := (qOne_len (sgN_bd s (sSt s k).2)).2
    rw [hm]
    unfold unqGo
    have hne : qOne (sgN s (sSt s k).2) ++ qMid ((signs s).drop (k + 1)) ≠ [] := by
      intro e
      have := congrArg List.length e
      rw [List.length_append, List.length_nil] at this
      omega
    rw [if_neg hne, sign_bytes s _ hlt]
    simp only
    rw [if_neg (show ¬ (qOne (sgN s (sSt s k).2)).length = 0 by omega), List.drop_left]
    have hnext : (bL s).take (sSt s k).2 ++ ((bL s).drop (sSt s k).2).take (sgW s (sSt s k).2) = (bL s).take (sSt s (k + 1)).2 := by
      have h2 : (sSt s (k + 1)).2 = (sSt s k).2 + sgW s (sSt s k).2 := by
        show (sStep s (sSt s k)).2 = _
        unfold sStep; rw [if_pos hlt]
      rw [h2, List.take_add]
    rw [hnext]
    exact ih (k + 1) f (by omega) (by omega)
theorem unq_quote (s : ByteArray) (f : Nat) (hf : s.size ≤ f) : unqGo f [] (qMid (signs s)) = some (bL s) := by
  have h1 := signs_len s
  have := unq_back s (signs s).length 0 f (by omega) (by omega)
  rw [List.drop_zero] at this
  exact this
/-- the text in marks, or none -/
def unqP (q : List UInt8) : Option (List UInt8) :=
  if q.length < 2 ∨ q.getD 0 0 ≠ 34 ∨ q.getD (q.length - 1) 0 ≠ 34 then none
  else match unqGo q.length [] ((q.drop 1).take (q.length - 2)) with
    | none => none
    | some x => if quoteP ⟨x.toArray⟩ = q then some x else none
theorem unqP_quote (s : ByteArray) : unqP (quoteP s) = some (bL s) := by
  have hl : (quoteP s).length = (qMid (signs s)).length + 2 := by unfold quoteP; simp
  have h0 : (quoteP s).getD 0 0 = 34 := rfl
  have h1 : (quoteP s).getD ((quoteP s).length - 1) 0 = 34 := by
    rw [hl]
    unfold quoteP
    rw [List.getD_eq_getElem?_getD, List.getElem?_append_right (by simp)]
    simp
  have hm : ((quoteP s).drop 1).take ((quoteP s).length - 2) = qMid (signs s) := by
    rw [hl, Nat.add_sub_cancel]
    show (qMid (signs s) ++ [34]).take _ = _
    rw [List.take_left]
  have hq : (signs s).length ≤ (qMid (signs s)).length := by
    have : ∀ l : List Int, (∀ n ∈ l, -256 ≤ n ∧ n ≤ 1114111) → l.length ≤ (qMid l).length := by
      intro l
      induction l with
      | nil => intro _; simp
      | cons n l ih =>
        intro h
        have h1 := (qOne_len (h n (List.mem_cons_self ..))).2
        have h2 := ih (fun x hx => h x (List.mem_cons_of_mem _ hx))
        show l.length + 1 ≤ (qOne n ++ qMid l).length
        rw [List.length_append]; omega
    exact this _ (sSt_mem s s.size)
  unfold unqP
  rw [if_neg (by rw [h0, h1, hl]; simp), hm]
  have := unq_back s (signs s).length 0 (quoteP s).length (by omega) (by omega)
  rw [List.drop_zero] at this
  have h9 : unqGo (quoteP s).length [] (qMid (signs s)) = some (bL s) := this
  rw [h9]
  simp only
  rw [if_pos]
  rfl
theorem unqP_one {q x : List UInt8} (h : unqP q = some x) : quoteP ⟨x.toArray⟩ = q := by
  unfold unqP at h
  split at h
  · cases h
  · split at h
    · cases h
    · split at h
      · rename_i hq
        simp only [Option.some.injEq] at h
        subst h; exact hq
      · cases h
end Go.Proofs.YtioaijjmialdoaaDoor
