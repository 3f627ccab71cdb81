
/- Texts cut at a sign, and choices in words, and back: the plain law. No program. -/
import Derived.Test.YtockkjhciojgbaaGreatDoorNumPure
import Derived.Lib.IndexMore
import Derived.Lib.SplitLaws
namespace Go.Proofs.YtockkjhciojgbaaGreatDoor
set_option maxRecDepth 100000
set_option linter.unusedSimpArgs false
set_option linter.unusedVariables false
set_option linter.unusedSimpArgs false

/-- a text cut at the first of these signs -/
def cutS (c : UInt8) : List UInt8 → List UInt8 × List UInt8 × Bool
  | [] => ([], [], false)
  | x :: l => if x = c then ([], l, true) else (x :: (cutS c l).1, (cutS c l).2.1, (cutS c l).2.2)
theorem index_cons (c x : UInt8) (l : List UInt8) : Lib.index (x :: l) [c] = if x = c then 0 else if Lib.index l [c] == -1 then -1 else Lib.index l [c] + 1 := by
  rw [Lib.index]
  by_cases h : x = c
  · subst h; simp [List.isPrefixOf]
  · have hp : ([c] : List UInt8).isPrefixOf (x :: l) = false := by simp [List.isPrefixOf, Ne.symm h]
    rw [hp]; simp [h]
theorem index_nil (c : UInt8) : Lib.index [] [c] = -1 := by simp [Lib.index]
theorem index_S (c : UInt8) : ∀ l : List UInt8, Lib.index l [c] = if c ∈ l then ((cutS c l).1.length : Int) else -1
  | [] => by rw [index_nil]; simp
  | x :: l => by
    rw [index_cons, index_S c l]
    by_cases h : x = c
    · subst h; simp [cutS]
    · have hc : ¬ c = x := fun e => h e.symm
      by_cases hm : c ∈ l
      · simp only [cutS, if_neg h, if_pos hm, if_pos (List.mem_cons_of_mem x hm), List.length_cons]
        split
        · rename_i h9; rw [beq_iff_eq] at h9; omega
        · omega
      · simp [h, hm, hc]
theorem cutS_found (c : UInt8) : ∀ l : List UInt8, (cutS c l).2.2 = decide (c ∈ l)
  | [] => by simp [cutS]
  | x :: l => by
    by_cases h : x = c
    · subst h; simp [cutS]
    · have hc : ¬ c = x := fun e => h e.symm
      simp [cutS, h, cutS_found c l, hc]
theorem cutS_yes (c : UInt8) : ∀ l : List UInt8, c ∈ l → l = (cutS c l).1 ++ c :: (cutS c l).2.1 ∧ c ∉ (cutS c l).1
  | [], h => by cases h
  | x :: l, h => by
    by_cases hx : x = c
    · subst hx; simp [cutS]
    · have hc : ¬ c = x := fun e => hx e.symm
      have hm : c ∈ l := by
        rcases List.mem_cons.1 h with e | e
        · exact absurd e hc
        · exact e
      obtain ⟨h1, h2⟩ := cutS_yes c l hm
      simp only [cutS, if_neg hx, List.cons_append]
      exact ⟨by rw [← h1], by simp [hc, h2]⟩
theorem cutS_no (c : UInt8) : ∀ l : List UInt8, c ∉ l → cutS c l = (l, [], false)
  | [], _ => rfl
  | x :: l, h => by
    have hx : ¬ x = c := fun e => h (e ▸ List.mem_cons_self ..)
    have hm : c ∉ l := fun e => h (List.mem_cons_of_mem _ e)
    simp [cutS, hx, cutS_no c l hm]
theorem cutS_at (c : UInt8) (a b : List UInt8) (h : c ∉ a) : cutS c (a ++ c :: b) = (a, b, true) := by
  induction a with
  | nil => simp [cutS]
  | cons x a ih =>
    have hx : ¬ x = c := fun e => h (e ▸ List.mem_cons_self ..)
    have hm : c ∉ a := fun e => h (List.mem_cons_of_mem _ e)
    simp [cutS, hx, ih hm]
theorem cut_S (c : UInt8) (l : List UInt8) : Lib.cut l [c] = cutS c l := by
  unfold Lib.cut
  rw [index_S]
  by_cases h : c ∈ l
  · obtain ⟨h1, h2⟩ := cutS_yes c l h
    have h3 := cutS_found c l
    rw [decide_eq_true h] at h3
    rw [if_pos h, if_pos (by omega)]
    generalize hA : (cutS c l).1 = A at *
    generalize hB : (cutS c l).2.1 = B at *
    have h4 : cutS c l = (A, B, true) := by rw [← hA, ← hB, ← h3]
    rw [h4]
    have e1 : l.take A.length = A := by rw [h1]; exact List.take_left
    have e2 : l.drop (A.length + 1) = B := by
      rw [h1, show A.length + 1 = (A ++ [c]).length by simp, show A ++ c :: B = (A ++ [c]) ++ B by simp]
      exact List.drop_left
    simp only [Int.toNat_natCast, List.length_singleton]
    rw [e1, e2]
  · rw [if_neg h, if_neg (by omega), cutS_no c l h]

/-! ### choices in words -/
def pollL : List UInt8 := [112, 111, 108, 108]
def tickL : List UInt8 := [116, 105, 99, 107]
def lineL (t : Bool) (n : Int) : List UInt8 := (if t then tickL else pollL) ++ 32 :: Lib.itoa n
def readP (l : List UInt8) : Option (Bool × Int) :=
  if (cutS 32 l).2.2 = true then
    match rdN (cutS 32 l).2.1 with
    | some n => if (cutS 32 l).1 = pollL then some (false, n) else if (cutS 32 l).1 = tickL then some (true, n) else none
    | none => none
  else none
theorem readP_line (t : Bool) {n : Int} (h : I64 n) : readP (lineL t n) = some (t, n) := by
  unfold readP lineL
  cases t with
  | true =>
    rw [if_pos rfl, cutS_at 32 tickL _ (by decide)]
    simp only [if_true]
    rw [rdN_itoa h]
    simp only
    rw [if_neg (by decide)]
  | false =>
    rw [show (if false = true then tickL else pollL) = pollL from rfl, cutS_at 32 pollL _ (by decide)]
    simp only [if_true]
    rw [rdN_itoa h]
theorem readP_some {l : List UInt8} {t : Bool} {n : Int} (h : readP l = some (t, n)) : lineL t n = l ∧ I64 n := by
  unfold readP at h
  split at h
  · rename_i hf
    rw [cutS_found, decide_eq_true_iff] at hf
    obtain ⟨h1, _⟩ := cutS_yes 32 l hf
    split at h
    · rename_i m hm
      obtain ⟨h2, h3⟩ := rdN_some hm
      split at h
      · rename_i hw
        simp only [Option.some.injEq, Prod.mk.injEq] at h
        obtain ⟨rfl, rfl⟩ := h
        rw [hw, ← h2] at h1
        exact ⟨h1.symm, h3⟩
      · split at h
        · rename_i hw
          simp only [Option.some.injEq, Prod.mk.injEq] at h
          obtain ⟨rfl, rfl⟩ := h
          rw [hw, ← h2] at h1
          exact ⟨h1.symm, h3⟩
        · cases h
    · cases h
  · cases h
end Go.Proofs.YtockkjhciojgbaaGreatDoor
