/- Several texts as one. No condition beyond each one's own. -/
import Derived.Test.YtockkjhciojgbaaGreatDoorPackCb
import Derived.Test.YtockkjhciojgbaaGreatDoorPackQ
import Derived.Test.YtockkjhciojgbaaGreatDoorPackF
import Derived.Test.YtockkjhciojgbaaGreatDoorRecRow
/- EventPure -/
/- Events in words, and back: the plain law. No program. -/
namespace Go.Proofs.YtockkjhciojgbaaGreatDoor
set_option maxRecDepth 100000
set_option linter.unusedSimpArgs false
set_option linter.unusedVariables false
set_option linter.unusedSimpArgs false

/-- a text in parts, at the first so many of these signs -/
def splN (c : UInt8) : Nat → List UInt8 → List (List UInt8)
  | 0, l => [l]
  | k + 1, l => if c ∈ l then (cutS c l).1 :: splN c k (cutS c l).2.1 else [l]
theorem splitK_N (c : UInt8) : ∀ (k : Nat) (l : List UInt8), Lib.splitK [c] 0 k l = splN c k l
  | 0, l => rfl
  | k + 1, l => by
    unfold Lib.splitK splN
    rw [index_S]
    by_cases hm : c ∈ l
    · obtain ⟨h1, h2⟩ := cutS_yes c l hm
      rw [if_pos hm, if_pos hm, if_neg (by rw [beq_iff_eq]; omega)]
      generalize hA : (cutS c l).1 = a at *
      generalize hB : (cutS c l).2.1 = b at *
      have e1 : l.take (((a.length : Int)).toNat + 0) = a := by rw [Int.toNat_natCast, Nat.add_zero, h1]; exact List.take_left
      have e2 : l.drop (((a.length : Int)).toNat + ([c] : List UInt8).length) = b := by
        rw [Int.toNat_natCast, h1, show a.length + ([c] : List UInt8).length = (a ++ [c]).length by simp, show a ++ c :: b = (a ++ [c]) ++ b by simp]
        exact List.drop_left
      rw [e1, e2, splitK_N c k b]
    · rw [if_neg hm, if_neg hm, if_pos (by rfl)]
theorem splN_at {c : UInt8} {a : List UInt8} (k : Nat) (b : List UInt8) (h : c ∉ a) : splN c (k + 1) (a ++ c :: b) = a :: splN c k b := by
  have h1 : splN c (k + 1) (a ++ c :: b) = if c ∈ (a ++ c :: b) then (cutS c (a ++ c :: b)).1 :: splN c k (cutS c (a ++ c :: b)).2.1 else [a ++ c :: b] := rfl
  rw [h1, if_pos (by simp), cutS_at c a b h]
theorem splN_no {c : UInt8} {a : List UInt8} (k : Nat) (h : c ∉ a) : splN c k a = [a] := by
  cases k with
  | zero => rfl
  | succ k => unfold splN; rw [if_neg h]
theorem splN_ne (c : UInt8) (k : Nat) (l : List UInt8) : splN c k l ≠ [] := by
  cases k with
  | zero => simp [splN]
  | succ k => unfold splN; split <;> simp
theorem splN_join {c : UInt8} : ∀ {k : Nat} {l h : List UInt8} {t : List (List UInt8)}, splN c k l = h :: t → l = h ++ joinC c t
  | 0, l, h, t, e => by simp [splN] at e; obtain ⟨rfl, rfl⟩ := e; simp [joinC]
  | k + 1, l, h, t, e => by
    unfold splN at e
    split at e
    · rename_i hm
      obtain ⟨h1, _⟩ := cutS_yes c l hm
      simp only [List.cons.injEq] at e
      obtain ⟨e1, e2⟩ := e
      cases ht : splN c k (cutS c l).2.1 with
      | nil => exact absurd ht (splN_ne c k _)
      | cons h2 t2 =>
        have hj := splN_join ht
        rw [← e2, ht]
        conv => lhs; rw [h1]
        rw [e1, hj]
        unfold joinC
        rw [List.flatMap_cons]; rfl
    · simp only [List.cons.injEq] at e
      obtain ⟨rfl, rfl⟩ := e
      simp [joinC]
/-- enough cuts are enough -/
theorem splN_more (c : UInt8) : ∀ (k j : Nat) (l : List UInt8), l.count c ≤ k → splN c (k + j) l = splN c k l
  | 0, j, l, h => splN_no _ (fun hm => by have := List.count_pos_iff.2 hm; omega)
  | k + 1, j, l, h => by
    by_cases hm : c ∈ l
    · obtain ⟨h1, h2⟩ := cutS_yes c l hm
      rw [show k + 1 + j = (k + j) + 1 by omega]
      unfold splN
      rw [if_pos hm, if_pos hm]
      congr 1
      apply splN_more c k j
      have hc : l.count c = (cutS c l).2.1.count c + 1 := by
        conv => lhs; rw [h1]
        rw [List.count_append, List.count_cons_self, List.count_eq_zero_of_not_mem h2]; omega
      omega
    · rw [splN_no _ hm, splN_no _ hm]
theorem splitN_N (c : UInt8) (l : List UInt8) : Lib.splitN l [c] 4 = splN c 3 l := by
  unfold Lib.splitN
  rw [splitK_N]
  by_cases h : 3 ≤ l.length
  · rw [show min 4 (l.length + 1) - 1 = 3 by omega]
  · have hk : min 4 (l.length + 1) - 1 = l.length := by omega
    rw [hk]
    have := splN_more c l.length (3 - l.length) l List.count_le_length
    rw [show l.length + (3 - l.length) = 3 by omega] at this
    exact this.symm

/-! ### events -/
inductive Ev where
  | elem (part kd tm : Int) (tx : ByteArray) (late : Bool)
  | mark (at_ : Int)
  | fault (part er : Int)
def evI : Ev → Prop
  | .elem p k t _ _ => I64 p ∧ I64 k ∧ I64 t
  | .mark a => I64 a
  | .fault p e => I64 p ∧ I64 e
def wElement : List UInt8 := [101, 108, 101, 109, 101, 110, 116]
def wLate : List UInt8 := [108, 97, 116, 101]
def wMark : List UInt8 := [109, 97, 114, 107]
def wFault : List UInt8 := [102, 97, 117, 108, 116]
/-- an event in words -/
def lineE : Ev → List UInt8
  | .elem p k t tx late => (if late = true then wLate else wElement) ++ wordsL [p, k, t] ++ 32 :: quoteP tx
  | .mark a => wMark ++ wordsL [a]
  | .fault p e => wFault ++ wordsL [p, e]
/-- the event of a word and what stands behind it -/
def readW (w : List UInt8) (t : List (List UInt8)) : Option Ev :=
  if (w = wElement ∨ w = wLate) ∧ t.length = 4 then
    (if (t.take 3).all wOk = true then
      match unqP (t.getD 3 []) with
      | some x => some (.elem (wV (t.getD 0 [])) (wV (t.getD 1 [])) (wV (t.getD 2 [])) ⟨x.toArray⟩ (decide (w = wLate)))
      | none => none
    else none)
  else if w = wMark then (if t.all wOk = true ∧ t.length = 1 then some (.mark (wV (t.getD 0 []))) else none)
  else if w = wFault then (if t.all wOk = true ∧ t.length = 2 then some (.fault (wV (t.getD 0 [])) (wV (t.getD 1 []))) else none)
  else none
/-- the event of a line -/
def readE (l : List UInt8) : Option Ev := readW (cutS 32 l).1 (splN 32 3 (cutS 32 l).2.1)
theorem readE_at {w : List UInt8} (h : (32 : UInt8) ∉ w) (b : List UInt8) : readE (w ++ 32 :: b) = readW w (splN 32 3 b) := by
  unfold readE; rw [cutS_at 32 w b h]
theorem words_cons (n : Int) (l : List Int) : wordsL (n :: l) = 32 :: (Lib.itoa n ++ wordsL l) := by unfold wordsL; rw [List.flatMap_cons]; rfl
theorem words_nil : wordsL [] = [] := rfl
theorem itoa_no32 (n : Int) : (32 : UInt8) ∉ Lib.itoa n := itoa_no n 32 (by decide)
theorem readE_line {e : Ev} (h : evI e) : readE (lineE e) = some e := by
  cases e with
  | elem p k t tx late =>
    obtain ⟨hp, hk, ht⟩ := h
    have hline : lineE (.elem p k t tx late) = (if late = true then wLate else wElement) ++ 32 :: (Lib.itoa p ++ 32 :: (Lib.itoa k ++ 32 :: (Lib.itoa t ++ 32 :: quoteP tx))) := by
      show (if late = true then wLate else wElement) ++ wordsL [p, k, t] ++ 32 :: quoteP tx = _
      rw [words_cons, words_cons, words_cons, words_nil]
      simp
    have hw : (32 : UInt8) ∉ (if late = true then wLate else wElement) := by cases late <;> decide
    have hsp : splN 32 3 (Lib.itoa p ++ 32 :: (Lib.itoa k ++ 32 :: (Lib.itoa t ++ 32 :: quoteP tx))) = [Lib.itoa p, Lib.itoa k, Lib.itoa t, quoteP tx] := by
      rw [splN_at 2 _ (itoa_no32 p), splN_at 1 _ (itoa_no32 k), splN_at 0 _ (itoa_no32 t)]; rfl
    rw [hline, readE_at hw, hsp]
    unfold readW
    rw [if_pos ⟨by cases late <;> simp, rfl⟩]
    have hok : ([Lib.itoa p, Lib.itoa k, Lib.itoa t, quoteP tx].take 3).all wOk = true := by
      show ([Lib.itoa p, Lib.itoa k, Lib.itoa t] : List _).all wOk = true
      simp [(wV_itoa hp).2, (wV_itoa hk).2, (wV_itoa ht).2]
    rw [if_pos hok]
    have hq : unqP ([Lib.itoa p, Lib.itoa k, Lib.itoa t, quoteP tx].getD 3 []) = some (bL tx) := unqP_quote tx
    rw [hq]
    simp only [List.getD_cons_zero, List.getD_cons_succ]
    rw [(wV_itoa hp).1, (wV_itoa hk).1, (wV_itoa ht).1]
    congr 2
    cases late <;> rfl
  | mark a =>
    have hline : lineE (.mark a) = wMark ++ 32 :: Lib.itoa a := by
      show wMark ++ wordsL [a] = _
      rw [words_cons, words_nil, List.append_nil]
    rw [hline, readE_at (by decide), splN_no 3 (itoa_no32 a)]
    unfold readW
    rw [if_neg (fun hh => absurd hh.2 (by simp)), if_pos rfl, if_pos ⟨by simp [(wV_itoa h).2], rfl⟩]
    simp only [List.getD_cons_zero]
    rw [(wV_itoa h).1]
  | fault p e =>
    obtain ⟨hp, he⟩ := h
    have hline : lineE (.fault p e) = wFault ++ 32 :: (Lib.itoa p ++ 32 :: Lib.itoa e) := by
      show wFault ++ wordsL [p, e] = _
      rw [words_cons, words_cons, words_nil, List.append_nil]
    rw [hline, readE_at (by decide), splN_at 2 _ (itoa_no32 p), splN_no 2 (itoa_no32 e)]
    unfold readW
    rw [if_neg (fun hh => absurd hh.2 (by simp)), if_neg (by decide), if_pos rfl, if_pos ⟨by simp [(wV_itoa hp).2, (wV_itoa he).2], rfl⟩]
    simp only [List.getD_cons_zero, List.getD_cons_succ]
    rw [(wV_itoa hp).1, (wV_itoa he).1]
/-- a line that is an event is its line -/
theorem readE_some {l : List UInt8} {e : Ev} (h : readE l = some e) : lineE e = l ∧ evI e := by
  unfold readE at h
  have hsp0 := splN_ne 32 3 (cutS 32 l).2.1
  cases ht : splN 32 3 (cutS 32 l).2.1 with
  | nil => exact absurd ht hsp0
  | cons h0 t0 =>
    rw [ht] at h
    have hj := splN_join ht
    by_cases hm : (32 : UInt8) ∈ l
    · obtain ⟨h1, _⟩ := cutS_yes 32 l hm
      generalize (cutS 32 l).1 = w at *
      generalize (cutS 32 l).2.1 = r at *
      have hl : l = w ++ joinC 32 (h0 :: t0) := by
        rw [h1, hj]; unfold joinC; rw [List.flatMap_cons]; rfl
      unfold readW at h
      split at h
      · rename_i hc
        split at h
        · rename_i hok
          split at h
          · rename_i x hx
            simp only [Option.some.injEq] at h
            subst h
            match h0, t0, hc.2 with
            | p0, [p1, p2, p3], _ =>
              have hok' : ([p0, p1, p2] : List (List UInt8)).all wOk = true := hok
              have i0 := wOk_num (List.all_eq_true.1 hok' p0 (by simp))
              have i1 := wOk_num (List.all_eq_true.1 hok' p1 (by simp))
              have i2 := wOk_num (List.all_eq_true.1 hok' p2 (by simp))
              have hx' : unqP p3 = some x := hx
              refine ⟨?_, i0.2, i1.2, i2.2⟩
              show (if decide (w = wLate) = true then wLate else wElement) ++ wordsL [wV p0, wV p1, wV p2] ++ 32 :: quoteP ⟨x.toArray⟩ = l
              have hwl : (if decide (w = wLate) = true then wLate else wElement) = w := by
                by_cases hwl : w = wLate
                · rw [if_pos (by simpa using hwl)]; exact hwl.symm
                · rw [if_neg (by simpa using hwl)]
                  rcases hc.1 with e | e
                  · exact e.symm
                  · exact absurd e hwl
              rw [hwl, unqP_one hx', words_cons, words_cons, words_cons, words_nil, i0.1, i1.1, i2.1, hl]
              unfold joinC
              simp
          · cases h
        · cases h
      · split at h
        · rename_i hw
          split at h
          · rename_i hok
            simp only [Option.some.injEq] at h
            subst h
            match h0, t0, hok.2 with
            | p0, [], _ =>
              have hok' : ([p0] : List (List UInt8)).all wOk = true := hok.1
              have i0 := wOk_num (List.all_eq_true.1 hok' p0 (by simp))
              refine ⟨?_, i0.2⟩
              show wMark ++ wordsL [wV p0] = l
              rw [words_cons, words_nil, i0.1, hl, hw]
              unfold joinC
              simp
          · cases h
        · split at h
          · rename_i hw
            split at h
            · rename_i hok
              simp only [Option.some.injEq] at h
              subst h
              match h0, t0, hok.2 with
              | p0, [p1], _ =>
                have hok' : ([p0, p1] : List (List UInt8)).all wOk = true := hok.1
                have i0 := wOk_num (List.all_eq_true.1 hok' p0 (by simp))
                have i1 := wOk_num (List.all_eq_true.1 hok' p1 (by simp))
                refine ⟨?_, i0.2, i1.2⟩
                show wFault ++ wordsL [wV p0, wV p1] = l
                rw [words_cons, words_cons, words_nil, i0.1, i1.1, hl, hw]
                unfold joinC
                simp
            · cases h
          · cases h
    · rw [cutS_no 32 l hm] at ht hj h
      have hne : h0 :: t0 = [[]] := by rw [← ht]; rfl
      rw [hne] at h
      have hbad : wOk [] = false := by decide
      unfold readW at h
      rw [if_neg (fun hc => absurd hc.2 (by decide))] at h
      split at h
      · rw [if_neg (fun hc => by have := hc.1; simp [hbad] at this)] at h; cases h
      · split at h
        · rw [if_neg (fun hc => by have := hc.1; simp [hbad] at this)] at h; cases h
        · cases h
end Go.Proofs.YtockkjhciojgbaaGreatDoor
/- EventL -/
/- Events in words (the methods Line of package event; tidewaiterref22.Line), walked. No condition but the tables of Go's own library. -/
namespace Go.Proofs.YtockkjhciojgbaaGreatDoor
set_option maxRecDepth 100000
set_option linter.unusedSimpArgs false
open Go.RowKit
set_option linter.unusedVariables false
set_option linter.unusedSimpArgs false

def evV : Ev → Value
  | .elem p k t x late => .iface 108 (.agg #[.int .i64 p, .int .i64 k, .int .i64 t, .string x, .bool late])
  | .mark a => .iface 155 (.agg #[.int .i64 a])
  | .fault p e => .iface 151 (.agg #[.int .i64 p, .int .i64 e])
def evZ : Ev → Prop
  | .elem _ _ _ x _ => x.size ≤ 1000
  | _ => True
def numOr (n : Int) : Nat := (numT n).size
theorem lineE_mark (a : Int) : (⟨#[109, 97, 114, 107, 32]⟩ : ByteArray) ++ numT a = strOf (lineE (.mark a)) := by
  show strOf [109, 97, 114, 107, 32] ++ strOf (Lib.itoa a) = _
  rw [strN_app]
  show _ = strOf (wMark ++ wordsL [a])
  rw [words_cons, words_nil]; simp [wMark]
theorem lineE_fault (p e : Int) : (⟨#[102, 97, 117, 108, 116, 32]⟩ : ByteArray) ++ numT p ++ ⟨#[32]⟩ ++ numT e = strOf (lineE (.fault p e)) := by
  show strOf [102, 97, 117, 108, 116, 32] ++ strOf (Lib.itoa p) ++ strOf [32] ++ strOf (Lib.itoa e) = _
  rw [strN_app, strN_app, strN_app]
  show _ = strOf (wFault ++ wordsL [p, e])
  rw [words_cons, words_cons, words_nil]; simp [wFault]
def evWord (late : Bool) : ByteArray := if late = true then ⟨#[108, 97, 116, 101, 32]⟩ else ⟨#[101, 108, 101, 109, 101, 110, 116, 32]⟩
theorem lineE_elem (p k t : Int) (x : ByteArray) (late : Bool) : evWord late ++ numT p ++ ⟨#[32]⟩ ++ numT k ++ ⟨#[32]⟩ ++ numT t ++ ⟨#[32]⟩ ++ strOf (quoteP x) = strOf (lineE (.elem p k t x late)) := by
  have hw : evWord late = strOf ((if late = true then wLate else wElement) ++ [32]) := by cases late <;> rfl
  rw [hw]
  show strOf _ ++ strOf (Lib.itoa p) ++ strOf [32] ++ strOf (Lib.itoa k) ++ strOf [32] ++ strOf (Lib.itoa t) ++ strOf [32] ++ strOf (quoteP x) = _
  rw [strN_app, strN_app, strN_app, strN_app, strN_app, strN_app, strN_app]
  show _ = strOf ((if late = true then wLate else wElement) ++ wordsL [p, k, t] ++ 32 :: quoteP x)
  rw [words_cons, words_cons, words_cons, words_nil]; simp
theorem quoteP_size (x : ByteArray) : (strOf (quoteP x)).size ≤ 12 * x.size + 2 := by
  rw [← qPre_end]
  have := qPre_size x (signs x).length
  rw [ByteArray.size_append]
  show _ + 1 ≤ _
  omega
theorem itoaQ (n : Int) (w : World) (h : I64 n) (hP : PowT w) : ∀ d os, Calls Tryz.prog 50 #[.int .i64 n] (Go.Sort.grow (redrawn w d) os) fun e w'' => e = .returned (.string (numT n)) ∧ ∃ p : Regrown, w'' = Go.Sort.grow (redrawn w p.d) p.os := fun d os => Calls.regrown_of (itoaW n _ h (hP.below (below_regrown w d os)))
theorem quoteQ (x : ByteArray) (w : World) (h : x.size ≤ 200000) (hT : U8T w) (hZ : TzT w) : ∀ d os, Calls Tryz.prog 32 #[.string x] (Go.Sort.grow (redrawn w d) os) fun e w'' => e = .returned (.string (strOf (quoteP x))) ∧ ∃ p : Regrown, w'' = Go.Sort.grow (redrawn w p.d) p.os := fun d os => Calls.regrown_of (quote_Quote x _ h (hT.below (below_regrown w d os)) (hZ.below (below_regrown w d os)))
theorem quote4Q (x : ByteArray) (w : World) (h : x.size ≤ 200000) : ∀ d os, Calls Tryz.prog 37 #[.string x] (Go.Sort.grow (redrawn w d) os) fun e w'' => e = .returned (.string (strOf (quoteP x))) ∧ ∃ p : Regrown, w'' = Go.Sort.grow (redrawn w p.d) p.os := fun d os => Calls.regrown_of (ref04_Quote x _ h)
theorem mark_Line (a : Int) (w : World) (h : I64 a) (hP : PowT w) :
    Calls Tryz.prog 232 #[.agg #[.int .i64 a]] w fun e w' => e = .returned (.string (strOf (lineE (.mark a)))) ∧ Below w.heap.size w w' := by
  have HL0 := hid' (bel_alloc (bel_refl w) (.cells #[.int .i64 a] 155))
  have HN := hid' (fun W hP => itoaW a W h hP)
  have HP := hid' (hP.below HL0.out)
  have hz := numT_size h
  have h1 : 5 + (numT a).size ≤ 9223372036854775807 := by omega
  rw [← lineE_mark]
  clear hz hP h
  generalize numT a = y at *
  go_enter Tryz.func232, Tryz.ntmps232
  go_wp2_with fail
  refine (HN.out _ HP.out).mono ?_
  rintro e w2 ⟨rfl, hB2⟩
  have HL2 := hid' (bel_then HL0.out hB2)
  clear hB2
  go_wp2
  go_ret
  refine ⟨?_, HL2.out⟩
  first | rfl | go_simp
theorem fault_Line (p c : Int) (w : World) (h : I64 p ∧ I64 c) (hP : PowT w) :
    Calls Tryz.prog 231 #[.agg #[.int .i64 p, .int .i64 c]] w fun e w' => e = .returned (.string (strOf (lineE (.fault p c)))) ∧ Below w.heap.size w w' := by
  have HK := hid' (Blk.new_ w 151 #[.int .i64 p, .int .i64 c])
  have HL0 := hid' (bel_alloc (bel_refl w) (.cells #[.int .i64 p, .int .i64 c] 151))
  have HN := hid' (fun W hP => itoaQ p W h.1 hP)
  have HM := hid' (fun W hP => itoaQ c W h.2 hP)
  have HP := hid' (hP.below HL0.out)
  have hz := numT_size h.1
  have hz2 := numT_size h.2
  have h1 : ¬ 9223372036854775807 < 6 + (numT p).size := by omega
  have h2 : ¬ 9223372036854775807 < 6 + (numT p).size + 1 := by omega
  have h3 : ¬ 9223372036854775807 < 6 + (numT p).size + 1 + (numT c).size := by omega
  rw [← lineE_fault]
  clear hz hz2 hP h
  generalize numT p = y at *
  generalize numT c = z at *
  go_enter Tryz.func231, Tryz.ntmps231
  go_wp2
  generalize hw0 : w.alloc (.cells #[.int .i64 p, .int .i64 c] 151) = w0 at *
  have c0 : w0.cell? ⟨w.heap.size, 0, none⟩ = some (.int .i64 p) := by simpa using HK.out.cell 0
  have c1 : w0.cell? ⟨w.heap.size, 1, none⟩ = some (.int .i64 c) := by simpa using HK.out.cell 1
  have q0 := cell_regrown c0
  have q1 := cell_regrown c1
  skip
  refine wp_region_quiet_below (by kernel_rfl) (by kernel_rfl) ?_
  repeat (quiet_step (first | with_reducible exact HN.out _ HP.out _ _ | with_reducible exact HM.out _ HP.out _ _))
  refine wpQuiet_nil ?_
  intro _ hw'
  obtain ⟨⟨dq, osq⟩, hw''⟩ := hw'
  subst hw''
  have hBq := below_regrown w0 dq osq
  generalize Go.Sort.grow (redrawn w0 dq) osq = wq at *
  go_wp2
  go_ret
  refine ⟨?_, bel_then HL0.out hBq⟩
  first | rfl | go_simp
set_option maxHeartbeats 8000000 in
theorem elem_Line (p k t : Int) (x : ByteArray) (late : Bool) (w : World) (h : I64 p ∧ I64 k ∧ I64 t) (hx : x.size ≤ 1000) (hP : PowT w) (hT : U8T w) (hZ : TzT w) :
    Calls Tryz.prog 202 #[.agg #[.int .i64 p, .int .i64 k, .int .i64 t, .string x, .bool late]] w fun e w' => e = .returned (.string (strOf (lineE (.elem p k t x late)))) ∧ Below w.heap.size w w' := by
  have HK := hid' (Blk.new_ w 108 #[.int .i64 p, .int .i64 k, .int .i64 t, .string x, .bool late])
  have HL0 := hid' (bel_alloc (bel_refl w) (.cells #[.int .i64 p, .int .i64 k, .int .i64 t, .string x, .bool late] 108))
  have HN := hid' (fun W hP => itoaQ p W h.1 hP)
  have HM := hid' (fun W hP => itoaQ k W h.2.1 hP)
  have HO := hid' (fun W hP => itoaQ t W h.2.2 hP)
  have HQ := hid' (fun W hT hZ => quoteQ x W (by omega) hT hZ)
  have HP := hid' (hP.below HL0.out)
  have HT := hid' (hT.below HL0.out)
  have HZ := hid' (hZ.below HL0.out)
  have hz := numT_size h.1
  have hz2 := numT_size h.2.1
  have hz3 := numT_size h.2.2
  have hz4 := quoteP_size x
  rw [← lineE_elem]
  clear hP h hT hZ
  cases late with
  | true =>
    unfold evWord
    rw [if_pos rfl]
    have h1 : ¬ 9223372036854775807 < 5 + (numT p).size := by omega
    have h2 : ¬ 9223372036854775807 < 5 + (numT p).size + 1 := by omega
    have h3 : ¬ 9223372036854775807 < 5 + (numT p).size + 1 + (numT k).size := by omega
    have h4 : ¬ 9223372036854775807 < 5 + (numT p).size + 1 + (numT k).size + 1 := by omega
    have h5 : ¬ 9223372036854775807 < 5 + (numT p).size + 1 + (numT k).size + 1 + (numT t).size := by omega
    have h6 : ¬ 9223372036854775807 < 5 + (numT p).size + 1 + (numT k).size + 1 + (numT t).size + 1 := by omega
    have h7 : ¬ 9223372036854775807 < 5 + (numT p).size + 1 + (numT k).size + 1 + (numT t).size + 1 + (strOf (quoteP x)).size := by omega
    clear hz hz2 hz3 hz4
    generalize numT p = y1 at *
    generalize numT k = y2 at *
    generalize numT t = y3 at *
    generalize strOf (quoteP x) = y4 at *
    go_enter Tryz.func202, Tryz.ntmps202
    go_wp2
    generalize hw0 : w.alloc (.cells #[.int .i64 p, .int .i64 k, .int .i64 t, .string x, .bool true] 108) = w0 at *
    have c0 : w0.cell? ⟨w.heap.size, 0, none⟩ = some (.int .i64 p) := by simpa using HK.out.cell 0
    have c1 : w0.cell? ⟨w.heap.size, 1, none⟩ = some (.int .i64 k) := by simpa using HK.out.cell 1
    have c2 : w0.cell? ⟨w.heap.size, 2, none⟩ = some (.int .i64 t) := by simpa using HK.out.cell 2
    have c3 : w0.cell? ⟨w.heap.size, 3, none⟩ = some (.string x) := by simpa using HK.out.cell 3
    have q0 := cell_regrown c0
    have q1 := cell_regrown c1
    have q2 := cell_regrown c2
    have q3 := cell_regrown c3
    clear c0 c1 c2 c3
    skip
    refine wp_region_quiet_below (by kernel_rfl) (by kernel_rfl) ?_
    repeat (quiet_step (first | with_reducible exact HN.out _ HP.out _ _ | with_reducible exact HM.out _ HP.out _ _ | with_reducible exact HO.out _ HP.out _ _ | with_reducible exact HQ.out _ HT.out HZ.out _ _))
    refine wpQuiet_nil ?_
    intro _ hw'
    obtain ⟨⟨dq, osq⟩, hw''⟩ := hw'
    subst hw''
    have hBq := below_regrown w0 dq osq
    generalize Go.Sort.grow (redrawn w0 dq) osq = wq at *
    go_wp2
    go_ret
    refine ⟨?_, bel_then HL0.out hBq⟩
    first | rfl | go_simp
  | false =>
    unfold evWord
    rw [if_neg (by decide)]
    have h1 : ¬ 9223372036854775807 < 8 + (numT p).size := by omega
    have h2 : ¬ 9223372036854775807 < 8 + (numT p).size + 1 := by omega
    have h3 : ¬ 9223372036854775807 < 8 + (numT p).size + 1 + (numT k).size := by omega
    have h4 : ¬ 9223372036854775807 < 8 + (numT p).size + 1 + (numT k).size + 1 := by omega
    have h5 : ¬ 9223372036854775807 < 8 + (numT p).size + 1 + (numT k).size + 1 + (numT t).size := by omega
    have h6 : ¬ 9223372036854775807 < 8 + (numT p).size + 1 + (numT k).size + 1 + (numT t).size + 1 := by omega
    have h7 : ¬ 9223372036854775807 < 8 + (numT p).size + 1 + (numT k).size + 1 + (numT t).size + 1 + (strOf (quoteP x)).size := by omega
    clear hz hz2 hz3 hz4
    generalize numT p = y1 at *
    generalize numT k = y2 at *
    generalize numT t = y3 at *
    generalize strOf (quoteP x) = y4 at *
    go_enter Tryz.func202, Tryz.ntmps202
    go_wp2
    generalize hw0 : w.alloc (.cells #[.int .i64 p, .int .i64 k, .int .i64 t, .string x, .bool false] 108) = w0 at *
    have c0 : w0.cell? ⟨w.heap.size, 0, none⟩ = some (.int .i64 p) := by simpa using HK.out.cell 0
    have c1 : w0.cell? ⟨w.heap.size, 1, none⟩ = some (.int .i64 k) := by simpa using HK.out.cell 1
    have c2 : w0.cell? ⟨w.heap.size, 2, none⟩ = some (.int .i64 t) := by simpa using HK.out.cell 2
    have c3 : w0.cell? ⟨w.heap.size, 3, none⟩ = some (.string x) := by simpa using HK.out.cell 3
    have q0 := cell_regrown c0
    have q1 := cell_regrown c1
    have q2 := cell_regrown c2
    have q3 := cell_regrown c3
    clear c0 c1 c2 c3
    skip
    refine wp_region_quiet_below (by kernel_rfl) (by kernel_rfl) ?_
    repeat (quiet_step (first | with_reducible exact HN.out _ HP.out _ _ | with_reducible exact HM.out _ HP.out _ _ | with_reducible exact HO.out _ HP.out _ _ | with_reducible exact HQ.out _ HT.out HZ.out _ _))
    refine wpQuiet_nil ?_
    intro _ hw'
    obtain ⟨⟨dq, osq⟩, hw''⟩ := hw'
    subst hw''
    have hBq := below_regrown w0 dq osq
    generalize Go.Sort.grow (redrawn w0 dq) osq = wq at *
    go_wp2
    go_ret
    refine ⟨?_, bel_then HL0.out hBq⟩
    first | rfl | go_simp
/-! ### the document's line: plain data -/
abbrev PD := Int × Int × Rec × Bool × Int × Int
def pdV (k p : Int) (r : Rec) (l : Bool) (a e : Int) : Value := .agg #[.int .i64 k, .int .i64 p, .int .i64 r.1, .int .i64 r.2.1, .string r.2.2, .bool l, .int .i64 a, .int .i64 e]
/-- the event that plain data tells -/
def pdE (k p : Int) (r : Rec) (l : Bool) (a e : Int) : Ev := if k = 1 then .mark a else if k = 2 then .fault p e else .elem p r.1 r.2.1 r.2.2 l
end Go.Proofs.YtockkjhciojgbaaGreatDoor
/- EventO -/
/- Events by their types (event.Of, Last, Part), plain data and back (tidewaiterlaw22.Of, Plain, tidy), walked. No condition. -/
namespace Go.Proofs.YtockkjhciojgbaaGreatDoor
set_option maxRecDepth 100000
set_option linter.unusedSimpArgs false
open Go.RowKit
set_option linter.unusedVariables false
set_option linter.unusedSimpArgs false

abbrev El := Int × Int × Int × ByteArray × Bool
def elOf : Ev → List El | .elem p k t x b => [(p, k, t, x, b)] | _ => []
def mkOf : Ev → List Int | .mark a => [a] | _ => []
def ftOf : Ev → List (Int × Int) | .fault p e => [(p, e)] | _ => []
def fEl (x : El) : List Value := [.int .i64 x.1, .int .i64 x.2.1, .int .i64 x.2.2.1, .string x.2.2.2.1, .bool x.2.2.2.2]
def fMk (a : Int) : List Value := [.int .i64 a]
def fFt (x : Int × Int) : List Value := [.int .i64 x.1, .int .i64 x.2]
def elL (l : List Ev) : List El := l.flatMap elOf
def mkL (l : List Ev) : List Int := l.flatMap mkOf
def ftL (l : List Ev) : List (Int × Int) := l.flatMap ftOf
theorem take_fm {α β : Type} {f : α → List β} {l : List α} {k : Nat} {x : α} (h : l[k]? = some x) : (l.take (k + 1)).flatMap f = (l.take k).flatMap f ++ f x := by
  rw [List.take_add_one, h, List.flatMap_append]; simp
theorem elOne (x : El) : ∀ u ∈ fEl x, u.oneCell' = true := by
  intro u hu; unfold fEl at hu; simp at hu; rcases hu with h | h | h | h | h <;> rw [h] <;> rfl
theorem mkOne (x : Int) : ∀ u ∈ fMk x, u.oneCell' = true := by
  intro u hu; unfold fMk at hu; simp at hu; rw [hu]; rfl
theorem ftOne (x : Int × Int) : ∀ u ∈ fFt x, u.oneCell' = true := by
  intro u hu; unfold fFt at hu; simp at hu; rcases hu with h | h <;> rw [h] <;> rfl
theorem elL_len (l : List Ev) : (elL l).length ≤ l.length := by
  induction l with
  | nil => exact Nat.le_refl _
  | cons e l ih => show (elOf e ++ elL l).length ≤ _; rw [List.length_append, List.length_cons]; cases e <;> simp [elOf] <;> omega
theorem mkL_len (l : List Ev) : (mkL l).length ≤ l.length := by
  induction l with
  | nil => exact Nat.le_refl _
  | cons e l ih => show (mkOf e ++ mkL l).length ≤ _; rw [List.length_append, List.length_cons]; cases e <;> simp [mkOf] <;> omega
theorem ftL_len (l : List Ev) : (ftL l).length ≤ l.length := by
  induction l with
  | nil => exact Nat.le_refl _
  | cons e l ih => show (ftOf e ++ ftL l).length ≤ _; rw [List.length_append, List.length_cons]; cases e <;> simp [ftOf] <;> omega
theorem ta_ee (v : Value) (w : World) : (Instr.typeAssert (.iface 108 v) 101 108 true).run Tryz.prog w = .ok (.tuple #[v, .bool true]) w := by kernel_rfl
theorem ta_me (v : Value) (w : World) : (Instr.typeAssert (.iface 155 v) 101 108 true).run Tryz.prog w = .ok (.tuple #[.agg #[.int .i64 0, .int .i64 0, .int .i64 0, .string ⟨#[]⟩, .bool false], .bool false]) w := by kernel_rfl
theorem ta_fe (v : Value) (w : World) : (Instr.typeAssert (.iface 151 v) 101 108 true).run Tryz.prog w = .ok (.tuple #[.agg #[.int .i64 0, .int .i64 0, .int .i64 0, .string ⟨#[]⟩, .bool false], .bool false]) w := by kernel_rfl
theorem ta_em (v : Value) (w : World) : (Instr.typeAssert (.iface 108 v) 101 155 true).run Tryz.prog w = .ok (.tuple #[.agg #[.int .i64 0], .bool false]) w := by kernel_rfl
theorem ta_mm (v : Value) (w : World) : (Instr.typeAssert (.iface 155 v) 101 155 true).run Tryz.prog w = .ok (.tuple #[v, .bool true]) w := by kernel_rfl
theorem ta_fm (v : Value) (w : World) : (Instr.typeAssert (.iface 151 v) 101 155 true).run Tryz.prog w = .ok (.tuple #[.agg #[.int .i64 0], .bool false]) w := by kernel_rfl
theorem ta_ef (v : Value) (w : World) : (Instr.typeAssert (.iface 108 v) 101 151 true).run Tryz.prog w = .ok (.tuple #[.agg #[.int .i64 0, .int .i64 0], .bool false]) w := by kernel_rfl
theorem ta_mf (v : Value) (w : World) : (Instr.typeAssert (.iface 155 v) 101 151 true).run Tryz.prog w = .ok (.tuple #[.agg #[.int .i64 0, .int .i64 0], .bool false]) w := by kernel_rfl
theorem ta_ff (v : Value) (w : World) : (Instr.typeAssert (.iface 151 v) 101 151 true).run Tryz.prog w = .ok (.tuple #[v, .bool true]) w := by kernel_rfl
set_option maxHeartbeats 8000000 in
theorem of_elem (A : Option Addr) (c : Nat) (l : List Ev) (w : World) (hr : Rd w A (l.map evV)) (hl : l.length ≤ 100000) :
    Calls Tryz.prog 59 #[.slice A l.length c] w fun e w' => ∃ v, e = .returned v ∧ w'.ownsRow w.heap.size 108 5 v (elL l).length ((elL l).flatMap fEl) ∧ Below w.heap.size w w' := by
  have t1 := ta_ee
  have t2 := ta_me
  have t3 := ta_fe
  have HR := hid' hr
  have HB0 := hid' (bel_refl w)
  have HO0 := hid' (World.ownsRow_nil w w.heap.size 108 5)
  clear hr
  go_enter Tryz.func59, Tryz.ntmps59
  go_wp2
  go_loopw [3, 10] (fun v3 v10 wr => ∃ k : Nat, k ≤ l.length ∧ v10 = .int .i64 k ∧ wr.ownsRow w.heap.size 108 5 v3 (elL (l.take k)).length ((elL (l.take k)).flatMap fEl) ∧ Below w.heap.size w wr) (fun _ v10 _ => l.length - (intOf v10).toNat)
  case atStart => exact ⟨0, Nat.zero_le _, rfl, by rw [List.take_zero]; exact HO0.out, HB0.out⟩
  case round =>
    obtain ⟨k, hk, rfl, hO, hL⟩ := hrel
    have HO := hid' hO
    have HL := hid' hL
    clear hO
    have hlen := elL_len (l.take k)
    rw [List.length_take] at hlen
    by_cases hlt : k < l.length
    · obtain ⟨ad, x, rfl, hx, hcell⟩ := (HR.out.below hL).at_ hlt
      have HNX := hid' (show elL (l.take (k + 1)) = elL (l.take k) ++ _ from take_fm hx)
      clear hx hL
      cases x with
      | elem p kd t x b =>
        unfold evV at hcell
        simp only at hcell
        have hb2 := bel_alloc HL.out (.cells #[.int .i64 p, .int .i64 kd, .int .i64 t, .string x, .bool b] 108)
        have HB2 := hid' hb2
        have hO2 := hid' (HO.out.alloc (.cells #[.int .i64 p, .int .i64 kd, .int .i64 t, .string x, .bool b] 108))
        have hs3 : (wr.alloc (.cells #[.int .i64 p, .int .i64 kd, .int .i64 t, .string x, .bool b] 108)).heap.size = wr.heap.size + 1 := by simp
        have hbase := hb2.size
        have hone := hid' (elOne (p, kd, t, x, b))
        have hby : ((elL (l.take k)).length + 1) * 48 ≤ 140737488355328 := by omega
        clear hb2
        go_wp2_with (at_builtin; (refine ap_cells w.heap.size rfl (.tmp 20) (.tmp 22) 103 108 (.agg #[.int .i64 0, .int .i64 0, .int .i64 0, .string ⟨#[]⟩, .bool false]) 5 48 rfl (by kernel_rfl) (by kernel_rfl) rfl (by decide) (by decide) u3 (elL (l.take k)).length ((elL (l.take k)).flatMap fEl) [.int .i64 p, .int .i64 kd, .int .i64 t, .string x, .bool b] rfl (by rw [hs3]; rfl) rfl hone.out hO2.out hbase hby ?_); intro v1 w3 hown hg hat)
        go_roundw
        case rel => exact ⟨k + 1, by omega, by go_num, by rw [HNX.out]; simpa [elOf, mkOf, ftOf, fEl, fMk, fFt] using hown, bel_mod HB2.out (Mod.of_grown hg) (fun i hi h => by have := own_base' hO2.out i h; omega)⟩
        case measure => (simp only [intOf]; omega)
      | mark a =>
        unfold evV at hcell
        simp only at hcell
        have HB2 := hid' (bel_alloc HL.out (.cells #[.int .i64 0, .int .i64 0, .int .i64 0, .string ⟨#[]⟩, .bool false] 108))
        go_wp2
        go_roundw
        case rel => exact ⟨k + 1, by omega, by go_num, by rw [HNX.out]; simpa [elOf, mkOf, ftOf] using HO.out.alloc _, HB2.out⟩
        case measure => (simp only [intOf]; omega)
      | fault p e =>
        unfold evV at hcell
        simp only at hcell
        have HB2 := hid' (bel_alloc HL.out (.cells #[.int .i64 0, .int .i64 0, .int .i64 0, .string ⟨#[]⟩, .bool false] 108))
        go_wp2
        go_roundw
        case rel => exact ⟨k + 1, by omega, by go_num, by rw [HNX.out]; simpa [elOf, mkOf, ftOf] using HO.out.alloc _, HB2.out⟩
        case measure => (simp only [intOf]; omega)
    · obtain rfl : k = l.length := by omega
      rw [List.take_length] at HO
      clear hL hlen
      go_wp2
      go_ret
      exact ⟨_, rfl, HO.out, HL.out⟩
/-- of which partition an event is -/
def evPart : Ev → Int | .elem p _ _ _ _ => p | .fault p _ => p | .mark _ => -1
theorem mk_flat (M : List Int) : M.flatMap fMk = M.map (.int .i64) := by
  induction M with
  | nil => rfl
  | cons a M ih => rw [List.flatMap_cons, ih]; rfl
/-- how far time has come by events -/
def evLast (l : List Ev) : Int := (mkL l).getLastD (-9223372036854775808)
end Go.Proofs.YtockkjhciojgbaaGreatDoor
/- EventT -/
/- Events as a text (event.Text); plain data and back (tidewaiterlaw22.Of, Plain, tidy), walked. No condition but the tables of Go's own library. -/
namespace Go.Proofs.YtockkjhciojgbaaGreatDoor
set_option maxRecDepth 100000
set_option linter.unusedSimpArgs false
open Go.RowKit
set_option linter.unusedVariables false
set_option linter.unusedSimpArgs false

theorem me_e (v : Value) (w : World) : (method 381 108 v "Line").run Tryz.prog w = .ok (202, v) w := by kernel_rfl
theorem me_m (v : Value) (w : World) : (method 381 155 v "Line").run Tryz.prog w = .ok (232, v) w := by kernel_rfl
theorem me_f (v : Value) (w : World) : (method 381 151 v "Line").run Tryz.prog w = .ok (231, v) w := by kernel_rfl
def textE (l : List Ev) : List UInt8 := l.flatMap fun e => lineE e ++ [10]
theorem lineE_len {e : Ev} (h : evI e) (hz : evZ e) : (lineE e).length ≤ 13000 := by
  cases e with
  | elem p k t x b =>
    have h1 := itoa_len h.1
    have h2 := itoa_len h.2.1
    have h3 := itoa_len h.2.2
    have h4 : (quoteP x).length ≤ 12 * x.size + 2 := quoteP_size x
    have h5 : x.size ≤ 1000 := hz
    show ((if b = true then wLate else wElement) ++ wordsL [p, k, t] ++ 32 :: quoteP x).length ≤ _
    rw [words_cons, words_cons, words_cons, words_nil]
    have h6 : (if b = true then wLate else wElement).length ≤ 7 := by cases b <;> decide
    simp only [List.length_append, List.length_cons, List.length_nil]
    omega
  | mark a =>
    have h1 := itoa_len h
    show (wMark ++ wordsL [a]).length ≤ _
    rw [words_cons, words_nil]
    simp only [List.length_append, List.length_cons, List.length_nil]
    have : wMark.length = 4 := rfl
    omega
  | fault p c =>
    have h1 := itoa_len h.1
    have h2 := itoa_len h.2
    show (wFault ++ wordsL [p, c]).length ≤ _
    rw [words_cons, words_cons, words_nil]
    simp only [List.length_append, List.length_cons, List.length_nil]
    have : wFault.length = 5 := rfl
    omega
theorem textE_len {l : List Ev} (h : ∀ e ∈ l, evI e ∧ evZ e) (hl : l.length ≤ 1000) : (textE l).length ≤ 13001 * l.length := by
  induction l with
  | nil => simp [textE]
  | cons e l ih =>
    have h1 := lineE_len (h e (List.mem_cons_self ..)).1 (h e (List.mem_cons_self ..)).2
    have h2 := ih (fun x hx => h x (List.mem_cons_of_mem _ hx)) (by simp at hl; omega)
    show (lineE e ++ [10] ++ textE l).length ≤ _
    simp only [List.length_append, List.length_cons, List.length_nil]
    omega
set_option maxHeartbeats 8000000 in
theorem event_Text (A : Option Addr) (c : Nat) (l : List Ev) (w : World) (hr : Rd w A (l.map evV)) (hl : l.length ≤ 1000) (hI : ∀ e ∈ l, evI e ∧ evZ e) (hP : PowT w) (hT : U8T w) (hZ : TzT w) :
    Calls Tryz.prog 22 #[.slice A l.length c] w fun e w' => e = .returned (.string (strOf (textE l))) ∧ Below w.heap.size w w' := by
  have HR := hid' hr
  have HI := hid' hI
  have HP := hid' hP
  have HT := hid' hT
  have HZ := hid' hZ
  have HU0 := hid' (USt.new_ w)
  have HLN := hid' (fun k => textE_len (l := l.take k) (fun r hr => hI r (List.mem_of_mem_take hr)) (by rw [List.length_take]; omega))
  clear hr hI hP hT hZ
  go_enter Tryz.func22, Tryz.ntmps22
  go_wp2
  go_loopw [8] (fun v8 wr => ∃ k : Nat, k ≤ l.length ∧ v8 = .int .i64 k ∧ USt w wr (textE (l.take k))) (fun v8 _ => l.length - (intOf v8).toNat)
  case atStart => exact ⟨0, Nat.zero_le _, rfl, HU0.out⟩
  case round =>
    obtain ⟨k, hk, rfl, hU⟩ := hrel
    have HU := hid' hU
    have hlen := HLN.out k
    rw [List.length_take] at hlen
    by_cases hlt : k < l.length
    · have hLr := hU.2
      obtain ⟨ad, x, rfl, hx, hcell⟩ := (HR.out.below hLr).at_ hlt
      obtain ⟨hi, hz⟩ := HI.out x (List.mem_of_getElem? hx)
      have hP := HP.out.below hLr
      have hT := HT.out.below hLr
      have hZ := HZ.out.below hLr
      have HNX := hid' (show textE (l.take (k + 1)) = textE (l.take k) ++ _ from take_fm hx)
      have hll := lineE_len hi hz
      obtain ⟨L1, hL1⟩ : ∃ L1, L1 = lineE x := ⟨_, rfl⟩
      rw [← hL1] at HNX hll
      have hl4 : (textE (l.take k)).length ≤ 13001000 := by omega
      cases x with
      | elem p kd t x b =>
        unfold evV at hcell
        simp only at hcell
        have hC := elem_Line p kd t x b wr hi hz hP hT hZ
        rw [← hL1] at hC
        clear hi hz hP hT hZ hx hL1 hU hLr hlen
        have HC := hid' hC
        go_wp2_with fail
        rw [me_e]
        go_wp2_with fail
        refine HC.out.mono ?_
        rintro e' w4 ⟨rfl, hB4⟩
        have HU4 := hid' (HU.out.below hB4)
        have HW4 := hid' (USt.str HU4.out (strOf L1 ++ ⟨#[10]⟩) (by rw [ByteArray.size_append]; show _ + (L1.length + 1) ≤ _; omega))
        have hL1s : (strOf L1).size + 1 ≤ 9223372036854775807 := by show L1.length + 1 ≤ _; omega
        clear hB4
        go_wp2_with fail
        refine HW4.out.mono ?_
        rintro e' w5 ⟨⟨r5, rfl⟩, hU5⟩
        go_wp2
        go_roundw
        case rel => exact ⟨k + 1, by omega, by go_num, by
          rw [HNX.out]
          have : bL (strOf L1 ++ ⟨#[10]⟩) = L1 ++ [10] := by show bL (strOf L1 ++ strOf [10]) = _; rw [strN_app, bL_str]
          rw [← this]; exact hU5⟩
        case measure => (simp only [intOf]; omega)
      | mark a =>
        unfold evV at hcell
        simp only at hcell
        have hC := mark_Line a wr hi hP
        rw [← hL1] at hC
        clear hi hz hP hT hZ hx hL1 hU hLr hlen
        have HC := hid' hC
        go_wp2_with fail
        rw [me_m]
        go_wp2_with fail
        refine HC.out.mono ?_
        rintro e' w4 ⟨rfl, hB4⟩
        have HU4 := hid' (HU.out.below hB4)
        have HW4 := hid' (USt.str HU4.out (strOf L1 ++ ⟨#[10]⟩) (by rw [ByteArray.size_append]; show _ + (L1.length + 1) ≤ _; omega))
        have hL1s : (strOf L1).size + 1 ≤ 9223372036854775807 := by show L1.length + 1 ≤ _; omega
        clear hB4
        go_wp2_with fail
        refine HW4.out.mono ?_
        rintro e' w5 ⟨⟨r5, rfl⟩, hU5⟩
        go_wp2
        go_roundw
        case rel => exact ⟨k + 1, by omega, by go_num, by
          rw [HNX.out]
          have : bL (strOf L1 ++ ⟨#[10]⟩) = L1 ++ [10] := by show bL (strOf L1 ++ strOf [10]) = _; rw [strN_app, bL_str]
          rw [← this]; exact hU5⟩
        case measure => (simp only [intOf]; omega)
      | fault p c =>
        unfold evV at hcell
        simp only at hcell
        have hC := fault_Line p c wr hi hP
        rw [← hL1] at hC
        clear hi hz hP hT hZ hx hL1 hU hLr hlen
        have HC := hid' hC
        go_wp2_with fail
        rw [me_f]
        go_wp2_with fail
        refine HC.out.mono ?_
        rintro e' w4 ⟨rfl, hB4⟩
        have HU4 := hid' (HU.out.below hB4)
        have HW4 := hid' (USt.str HU4.out (strOf L1 ++ ⟨#[10]⟩) (by rw [ByteArray.size_append]; show _ + (L1.length + 1) ≤ _; omega))
        have hL1s : (strOf L1).size + 1 ≤ 9223372036854775807 := by show L1.length + 1 ≤ _; omega
        clear hB4
        go_wp2_with fail
        refine HW4.out.mono ?_
        rintro e' w5 ⟨⟨r5, rfl⟩, hU5⟩
        go_wp2
        go_roundw
        case rel => exact ⟨k + 1, by omega, by go_num, by
          rw [HNX.out]
          have : bL (strOf L1 ++ ⟨#[10]⟩) = L1 ++ [10] := by show bL (strOf L1 ++ strOf [10]) = _; rw [strN_app, bL_str]
          rw [← this]; exact hU5⟩
        case measure => (simp only [intOf]; omega)
    · obtain rfl : k = l.length := by omega
      rw [List.take_length] at HU
      clear hU hlen
      go_wp2_with fail
      have HSG := USt.string HU.out
      refine HSG.mono ?_
      rintro e' w4 ⟨rfl, hU4⟩
      go_wp2
      go_ret
      exact ⟨rfl, hU4.2⟩
/-! ### plain data -/
def pdOf : Ev → PD
  | .elem p k t x b => (0, p, (k, t, x), b, 0, 0)
  | .mark a => (1, 0, (0, 0, ⟨#[]⟩), false, a, 0)
  | .fault p e => (2, p, (0, 0, ⟨#[]⟩), false, 0, e)
theorem pdE_of (e : Ev) : pdE (pdOf e).1 (pdOf e).2.1 (pdOf e).2.2.1 (pdOf e).2.2.2.1 (pdOf e).2.2.2.2.1 (pdOf e).2.2.2.2.2 = e := by
  cases e <;> rfl
def fPd (x : PD) : List Value := [.int .i64 x.1, .int .i64 x.2.1, .int .i64 x.2.2.1.1, .int .i64 x.2.2.1.2.1, .string x.2.2.1.2.2, .bool x.2.2.2.1, .int .i64 x.2.2.2.2.1, .int .i64 x.2.2.2.2.2]
def tidyP (x : PD) : PD := if x.1 = 1 then (1, 0, (0, 0, ⟨#[]⟩), false, x.2.2.2.2.1, 0) else if x.1 = 2 then (2, x.2.1, (0, 0, ⟨#[]⟩), false, 0, x.2.2.2.2.2) else (0, x.2.1, x.2.2.1, x.2.2.2.1, 0, 0)
theorem pdOne (x : PD) : ∀ u ∈ fPd x, u.oneCell' = true := by
  intro u hu; unfold fPd at hu; simp at hu; rcases hu with h | h | h | h | h | h | h | h <;> rw [h] <;> rfl
end Go.Proofs.YtockkjhciojgbaaGreatDoor
