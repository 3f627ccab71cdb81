
/- Events in words, and back: the plain law. No program. -/
import Derived.Test.YtioaijjmialdoaaGreatDoorConfigPureB
import Derived.Test.YtioaijjmialdoaaGreatDoorPackQ
namespace Go.Proofs.YtioaijjmialdoaaGreatDoor
set_option maxRecDepth 100000
set_option linter.unusedSimpArgs false
set_option linter.unusedVariables false
set_option linter.unusedSimpArgs false

/-- a text in parts, at the first so many of these signs -/
def splN (c : UInt8) : Nat → List UInt8 → List (List UInt8)
  | 0, l => [l]
  | k + 1, l => if c ∈ l then (cutS c l).1 :: splN c k (cutS c l).2.1 else [l]
theorem splitK_N (c : UInt8) : ∀ (k : Nat) (l : List UInt8), Lib.splitK [c] 0 k l = splN c k l
  | 0, l => rfl
  | k + 1, l => by
    unfold Lib.splitK splN
    rw [index_S]
    by_cases hm : c ∈ l
    · obtain ⟨h1, h2⟩ := cutS_yes c l hm
      rw [if_pos hm, if_pos hm, if_neg (by rw [beq_iff_eq]; omega)]
      generalize hA : (cutS c l).1 = a at *
      generalize hB : (cutS c l).2.1 = b at *
      have e1 : l.take (((a.length : Int)).toNat + 0) = a := by rw [Int.toNat_natCast, Nat.add_zero, h1]; exact List.take_left
      have e2 : l.drop (((a.length : Int)).toNat + ([c] : List UInt8).length) = b := by
        rw [Int.toNat_natCast, h1, show a.length + ([c] : List UInt8).length = (a ++ [c]).length by simp, show a ++ c :: b = (a ++ [c]) ++ b by simp]
        exact List.drop_left
      rw [e1, e2, splitK_N c k b]
    · rw [if_neg hm, if_neg hm, if_pos (by rfl)]
theorem splN_at {c : UInt8} {a : List UInt8} (k : Nat) (b : List UInt8) (h : c ∉ a) : splN c (k + 1) (a ++ c :: b) = a :: splN c k b := by
  have h1 : splN c (k + 1) (a ++ c :: b) = if c ∈ (a ++ c :: b) then (cutS c (a ++ c :: b)).1 :: splN c k (cutS c (a ++ c :: b)).2.1 else [a ++ c :: b] := rfl
  rw [h1, if_pos (by simp), cutS_at c a b h]
theorem splN_no {c : UInt8} {a : List UInt8} (k : Nat) (h : c ∉ a) : splN c k a = [a] := by
  cases k with
  | zero => rfl
  | succ k => unfold splN; rw [if_neg h]
theorem splN_ne (c : UInt8) (k : Nat) (l : List UInt8) : splN c k l ≠ [] := by
  cases k with
  | zero => simp [splN]
  | succ k => unfold splN; split <;> simp
theorem splN_join {c : UInt8} : ∀ {k : Nat} {l h : List UInt8} {t : List (List UInt8)}, splN c k l = h :: t → l = h ++ joinC c t
  | 0, l, h, t, e => by simp [splN] at e; obtain ⟨rfl, rfl⟩ := e; simp [joinC]
  | k + 1, l, h, t, e => by
    unfold splN at e
    split at e
    · rename_i hm
      obtain ⟨h1, _⟩ := cutS_yes c l hm
      simp only [List.cons.injEq] at e
      obtain ⟨e1, e2⟩ := e
      cases ht : splN c k (cutS c l).2.1 with
      | nil => exact absurd ht (splN_ne c k _)
      | cons h2 t2 =>
        have hj := splN_join ht
        rw [← e2, ht]
        conv => lhs; rw [h1]
        rw [e1, hj]
        unfold joinC
        rw [List.flatMap_cons]; rfl
    · simp only [List.cons.injEq] at e
      obtain ⟨rfl, rfl⟩ := e
      simp [joinC]
/-- enough cuts are enough -/
theorem splN_more (c : UInt8) : ∀ (k j : Nat) (l : List UInt8), l.count c ≤ k → splN c (k + j) l = splN c k l
  | 0, j, l, h => splN_no _ (fun hm => by have := List.count_pos_iff.2 hm; omega)
  | k + 1, j, l, h => by
    by_cases hm : c ∈ l
    · obtain ⟨h1, h2⟩ := cutS_yes c l hm
      rw [show k + 1 + j = (k + j) + 1 by omega]
      unfold splN
      rw [if_pos hm, if_pos hm]
      congr 1
      apply splN_more c k j
      have hc : l.count c = (cutS c l).2.1.count c + 1 := by
        conv => lhs; rw [h1]
        rw [List.count_append, List.count_cons_self, List.count_eq_zero_of_not_mem h2]; omega
      omega
    · rw [splN_no _ hm, splN_no _ hm]
theorem splitN_N (c : UInt8) (l : List UInt8) : Lib.splitN l [c] 4 = splN c 3 l := by
  unfold Lib.splitN
  rw [splitK_N]
  by_cases h : 3 ≤ l.length
  · rw [show min 4 (l.length + 1) - 1 = 3 by omega]
  · have hk : min 4 (l.length + 1) - 1 = l.length := by omega
    rw [hk]
    have := splN_more c l.length (3 - l.length) l List.count_le_length
    rw [show l.length + (3 - l.length) = 3 by omega] at this
    exact this.symm

/-! ### events -/
inductive Ev where
  | elem (part kd tm : Int) (tx : ByteArray) (late : Bool)
  | mark (at_ : Int)
  | fault (part er : Int)
def evI : Ev → Prop
  | .elem p k t _ _ => I64 p ∧ I64 k ∧ I64 t
  | .mark a => I64 a
  | .fault p e => I64 p ∧ I64 e
def wElement : List UInt8 := [101, 108, 101, 109, 101, 110, 116]
def wLate : List UInt8 := [108, 97, 116, 101]
def wMark : List UInt8 := [109, 97, 114, 107]
def wFault : List UInt8 := [102, 97, 117, 108, 116]
/-- an event in words -/
def lineE : Ev → List UInt8
  | .elem p k t tx late => (if late = true then wLate else wElement) ++ wordsL [p, k, t] ++ 32 :: quoteP tx
  | .mark a => wMark ++ wordsL [a]
  | .fault p e => wFault ++ wordsL [p, e]
/-- the event of a word and what stands behind it -/
def readW (w : List UInt8) (t : List (List UInt8)) : Option Ev :=
  if (w = wElement ∨ w = wLate) ∧ t.length = 4 then
    (if (t.take 3).all wOk = true then
      match unqP (t.getD 3 []) with
      | some x => some (.elem (wV (t.getD 0 [])) (wV (t.getD 1 [])) (wV (t.getD 2 [])) ⟨x.toArray⟩ (decide (w = wLate)))
      | none => none
    else none)
  else if w = wMark then (if t.all wOk = true ∧ t.length = 1 then some (.mark (wV (t.getD 0 []))) else none)
  else if w = wFault then (if t.all wOk = true ∧ t.length = 2 then some (.fault (wV (t.getD 0 [])) (wV (t.getD 1 []))) else none)
  else none
/-- the event of a line -/
def readE (l : List UInt8) : Option Ev := readW (cutS 32 l).1 (splN 32 3 (cutS 32 l).2.1)
theorem readE_at {w : List UInt8} (h : (32 : UInt8) ∉ w) (b : List UInt8) : readE (w ++ 32 :: b) = readW w (splN 32 3 b) := by
  unfold readE; rw [cutS_at 32 w b h]
theorem words_cons (n : Int) (l : List Int) : wordsL (n :: l) = 32 :: (Lib.itoa n ++ wordsL l) := by unfold wordsL; rw [List.flatMap_cons]; rfl
theorem words_nil : wordsL [] = [] := rfl
theorem itoa_no32 (n : Int) : (32 : UInt8) ∉ Lib.itoa n := itoa_no n 32 (by decide)
theorem readE_line {e : Ev} (h : evI e) : readE (lineE e) = some e := by
  cases e with
  | elem p k t tx late =>
    obtain ⟨hp, hk, ht⟩ := h
    have hline : lineE (.elem p k t tx late) = (if late = true then wLate else wElement) ++ 32 :: (Lib.itoa p ++ 32 :: (Lib.itoa k ++ 32 :: (Lib.itoa t ++ 32 :: quoteP tx))) := by
      show (if late = true then wLate else wElement) ++ wordsL [p, k, t] ++ 32 :: quoteP tx = _
      rw [words_cons, words_cons, words_cons, words_nil]
      simp
    have hw : (32 : UInt8) ∉ (if late = true then wLate else wElement) := by cases late <;> decide
    have hsp : splN 32 3 (Lib.itoa p ++ 32 :: (Lib.itoa k ++ 32 :: (Lib.itoa t ++ 32 :: quoteP tx))) = [Lib.itoa p, Lib.itoa k, Lib.itoa t, quoteP tx] := by
      rw [splN_at 2 _ (itoa_no32 p), splN_at 1 _ (itoa_no32 k), splN_at 0 _ (itoa_no32 t)]; rfl
    rw [hline, readE_at hw, hsp]
    unfold readW
    rw [if_pos ⟨by cases late <;> simp, rfl⟩]
    have hok : ([Lib.itoa p, Lib.itoa k, Lib.itoa t, quoteP tx].take 3).all wOk = true := by
      show ([Lib.itoa p, Lib.itoa k, Lib.itoa t] : List _).all wOk = true
      simp [(wV_itoa hp).2, (wV_itoa hk).2, (wV_itoa ht).2]
    rw [if_pos hok]
    have hq : unqP ([Lib.itoa p, Lib.itoa k, Lib.itoa t, quoteP tx].getD 3 []) = some (bL tx) := unqP_quote tx
    rw [hq]
    simp only [List.getD_cons_zero, List.getD_cons_succ]
    rw [(wV_itoa hp).1, (wV_itoa hk).1, (wV_itoa ht).1]
    congr 2
    cases late <;> rfl
  | mark a =>
    have hline : lineE (.mark a) = wMark ++ 32 :: Lib.itoa a := by
      show wMark ++ wordsL [a] = _
      rw [words_cons, words_nil, List.append_nil]
    rw [hline, readE_at (by decide), splN_no 3 (itoa_no32 a)]
    unfold readW
    rw [if_neg (fun hh => absurd hh.2 (by simp)), if_pos rfl, if_pos ⟨by simp [(wV_itoa h).2], rfl⟩]
    simp only [List.getD_cons_zero]
    rw [(wV_itoa h).1]
  | fault p e =>
    obtain ⟨hp, he⟩ := h
    have hline : lineE (.fault p e) = wFault ++ 32 :: (Lib.itoa p ++ 32 :: Lib.itoa e) := by
      show wFault ++ wordsL [p, e] = _
      rw [words_cons, words_cons, words_nil, List.append_nil]
    rw [hline, readE_at (by decide), splN_at 2 _ (itoa_no32 p), splN_no 2 (itoa_no32 e)]
    unfold readW
    rw [if_neg (fun hh => absurd hh.2 (by simp)), if_neg (by decide), if_pos rfl, if_pos ⟨by simp [(wV_itoa hp).2, (wV_itoa he).2], rfl⟩]
    simp only [List.getD_cons_zero, List.getD_cons_succ]
    rw [(wV_itoa hp).1, (wV_itoa he).1]
/-- a line that is an event is its line -/
theorem readE_some {l : List UInt8} {e : Ev} (h : readE l = some e) : lineE e = l ∧ evI e := by
  unfold readE at h
  have hsp0 := splN_ne 32 3 (cutS 32 l).2.1
  cases ht : splN 32 3 (cutS 32 l).2.1 with
  | nil => exact absurd ht hsp0
  | cons h0 t0 =>
    rw [ht] at h
    have hj := splN_join ht
    by_cases hm : (32 : UInt8) ∈ l
    · obtain ⟨h1, _⟩ := cutS_yes 32 l hm
      generalize (cutS 32 l).1 = w at *
      generalize (cutS 32 l).2.1 = r at *
      have hl : l = w ++ joinC 32 (h0 :: t0) := by
        rw [h1, hj]; unfold joinC; rw [List.flatMap_cons]; rfl
      unfold readW at h
      split at h
      · rename_i hc
        split at h
        · rename_i hok
          split at h
          · rename_i x hx
            simp only [Option.some.injEq] at h
            subst h
            match h0, t0, hc.2 with
            | p0, [p1, p2, p3], _ =>
              have hok' : ([p0, p1, p2] : List (List UInt8)).all wOk = true := hok
              have i0 := wOk_num (List.all_eq_true.1 hok' p0 (by simp))
              have i1 := wOk_num (List.all_eq_true.1 hok' p1 (by simp))
              have i2 := wOk_num (List.all_eq_true.1 hok' p2 (by simp))
              have hx' : unqP p3 = some x := hx
              refine ⟨?_, i0.2, i1.2, i2.2⟩
              show (if decide (w = wLate) = true then wLate else wElement) ++ wordsL [wV p0, wV p1, wV p2] ++ 32 :: quoteP ⟨x.toArray⟩ = l
              have hwl : (if decide (w = wLate) = true then wLate else wElement) = w := by
                by_cases hwl : w = wLate
                · rw [if_pos (by simpa using hwl)]; exact hwl.symm
                · rw [if_neg (by simpa using hwl)]
                  rcases hc.1 with e | e
                  · exact e.symm
                  · exact absurd e hwl
              rw [hwl, unqP_one hx', words_cons, words_cons, words_cons, words_nil, i0.1, i1.1, i2.1, hl]
              unfold joinC
              simp
          · cases h
        · cases h
      · split at h
        · rename_i hw
          split at h
          · rename_i hok
            simp only [Option.some.injEq] at h
            subst h
            match h0, t0, hok.2 with
            | p0, [], _ =>
              have hok' : ([p0] : List (List UInt8)).all wOk = true := hok.1
              have i0 := wOk_num (List.all_eq_true.1 hok' p0 (by simp))
              refine ⟨?_, i0.2⟩
              show wMark ++ wordsL [wV p0] = l
              rw [words_cons, words_nil, i0.1, hl, hw]
              unfold joinC
              simp
          · cases h
        · split at h
          · rename_i hw
            split at h
            · rename_i hok
              simp only [Option.some.injEq] at h
              subst h
              match h0, t0, hok.2 with
              | p0, [p1], _ =>
                have hok' : ([p0, p1] : List (List UInt8)).all wOk = true := hok.1
                have i0 := wOk_num (List.all_eq_true.1 hok' p0 (by simp))
                have i1 := wOk_num (List.all_eq_true.1 hok' p1 (by simp))
                refine ⟨?_, i0.2, i1.2⟩
                show wFault ++ wordsL [wV p0, wV p1] = l
                rw [words_cons, words_cons, words_nil, i0.1, i1.1, hl, hw]
                unfold joinC
                simp
            · cases h
          · cases h
    · rw [cutS_no 32 l hm] at ht hj h
      have hne : h0 :: t0 = [[]] := by rw [← ht]; rfl
      rw [hne] at h
      have hbad : wOk [] = false := by decide
      unfold readW at h
      rw [if_neg (fun hc => absurd hc.2 (by decide))] at h
      split at h
      · rw [if_neg (fun hc => by have := hc.1; simp [hbad] at this)] at h; cases h
      · split at h
        · rw [if_neg (fun hc => by have := hc.1; simp [hbad] at this)] at h; cases h
        · cases h
end Go.Proofs.YtioaijjmialdoaaGreatDoor
