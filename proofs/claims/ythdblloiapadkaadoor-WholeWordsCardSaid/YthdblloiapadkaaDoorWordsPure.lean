
/- In words: no line is a choice and a rule: the plain law. No program. -/
import Derived.Test.YthdblloiapadkaaDoorConfigJ
namespace Go.Proofs.YthdblloiapadkaaDoor
set_option maxRecDepth 100000
set_option linter.unusedSimpArgs false
open Go.RowKit
set_option linter.unusedVariables false
set_option linter.unusedSimpArgs false

theorem spl_end (c : UInt8) : ∀ a : List UInt8, spl c (a ++ [c]) = spl c a ++ [[]]
  | [] => by simp [spl]
  | x :: a => by
    have ih := spl_end c a
    rw [List.cons_append]
    unfold spl
    rw [ih]
    by_cases hx : x = c
    · rw [if_pos hx, if_pos hx]; rfl
    · rw [if_neg hx, if_neg hx]
      cases hs : spl c a with
      | nil => exact absurd hs (spl_ne c a)
      | cons h t => rfl
/-- a word ahead of numbers, the first one of them there -/
def isLine (x : List UInt8) : Prop := ∃ w n l, x = w ++ wordsL (n :: l) ∧ (32 : UInt8) ∉ w ∧ w ≠ pollL ∧ w ≠ tickL
theorem line_noRead {x : List UInt8} (h : isLine x) : readP x = none := by
  obtain ⟨w, n, l, rfl, h1, h2, h3⟩ := h
  have hw : w ++ wordsL (n :: l) = w ++ 32 :: (Lib.itoa n ++ wordsL l) := by unfold wordsL; rw [List.flatMap_cons]; rfl
  unfold readP
  rw [hw, cutS_at 32 w _ h1]
  simp only [if_true]
  split
  · rw [if_neg h2, if_neg h3]
  · rfl
theorem lnOf_line {r : Rl} (h : rlI r) (ho : rlO r = true) : isLine (lnOf r) := by
  obtain ⟨k, b, p, n, s⟩ := r
  unfold rlO onlyB at ho
  simp only at ho
  have hl : ∀ (w : List UInt8) (l : List Int), (lnL w l).dropLast = w ++ wordsL l := fun w l => by unfold lnL; rw [List.dropLast_concat]
  unfold lnOf rlL ruleL
  simp only
  split at ho
  · rename_i k0
    rw [if_pos k0, hl]
    exact ⟨wBounded, b, [], rfl, by decide, by decide, by decide⟩
  · rename_i k0
    split at ho
    · rename_i k1
      rw [if_neg k0, if_pos k1, hl]
      exact ⟨wMarked, s, [], rfl, by decide, by decide, by decide⟩
    · rename_i k1
      split at ho
      · rename_i k2
        rw [if_neg k0, if_neg k1, if_pos k2, hl]
        exact ⟨wPercent, p, [n], rfl, by decide, by decide, by decide⟩
      · cases ho
theorem lns_noRead {l : List Rl} {t d : Int} (h : ∀ r ∈ l, rlI r) (ho : ∀ r ∈ l, rlO r = true) : ∀ x ∈ lnsOf l t d, readP x = none := by
  intro x hx
  rcases List.mem_cons.1 hx with rfl | hx
  · exact line_noRead ⟨wSource, t, [d], rfl, by decide, by decide, by decide⟩
  · obtain ⟨r, hr, rfl⟩ := List.mem_map.1 hx
    exact line_noRead (lnOf_line (h r hr) (ho r hr))
theorem line_noRule (t : Bool) {n : Int} (h : I64 n) : ruleP (lineL t n) = none := by
  have hw : ∀ w : List UInt8, w ++ 32 :: Lib.itoa n = w ++ wordsL [n] := fun w => by unfold wordsL; rw [List.flatMap_cons, List.flatMap_nil, List.append_nil]
  have hI : ∀ x ∈ [n], I64 x := by intro x hx; rw [List.mem_singleton] at hx; subst hx; exact h
  unfold lineL
  cases t with
  | true =>
    rw [if_pos rfl, hw, ruleP_words (by decide) hI]
    unfold ruleN
    rw [if_neg (fun h => absurd h.1 (by decide)), if_neg (fun h => absurd h.1 (by decide)), if_neg (fun h => absurd h.1 (by decide))]
  | false =>
    rw [show (if false = true then tickL else pollL) = pollL from rfl, hw, ruleP_words (by decide) hI]
    unfold ruleN
    rw [if_neg (fun h => absurd h.1 (by decide)), if_neg (fun h => absurd h.1 (by decide)), if_neg (fun h => absurd h.1 (by decide))]
theorem trim_cfg {l : List Rl} {t d : Int} (h : ∀ r ∈ l, rlI r) (ho : ∀ r ∈ l, rlO r = true) : ∃ s, cfgL l t d = s ++ [10] ∧ spl 10 s = lnsOf l t d := by
  have h1 := spl_cfg (t := t) (d := d) h ho
  have h2 : ∃ s, cfgL l t d = s ++ [10] := by
    rw [cfgL_lns h ho]
    have hne : lnsOf l t d ≠ [] := by simp [lnsOf]
    obtain ⟨ls, z, hz⟩ : ∃ ls z, lnsOf l t d = ls ++ [z] := ⟨_, _, (List.dropLast_concat_getLast hne).symm⟩
    rw [hz, List.flatMap_append]
    exact ⟨(ls.flatMap fun x => x ++ [10]) ++ z, by simp⟩
  obtain ⟨s, hs⟩ := h2
  refine ⟨s, hs, ?_⟩
  rw [hs, spl_end] at h1
  exact List.append_cancel_right h1
theorem trim_suffix (s : List UInt8) : Lib.trimSuffix (s ++ [10]) [10] = s := by
  unfold Lib.trimSuffix Lib.hasSuffix
  have h : ([10] : List UInt8).isSuffixOf (s ++ [10]) = true := List.isSuffixOf_iff_suffix.2 (List.suffix_append s [10])
  rw [if_pos h]
  simp
end Go.Proofs.YthdblloiapadkaaDoor
