
/- However records come: the plain law. No program. -/
import Derived.Test.YtoajlogbdkinkaaBounded10
namespace Go.Proofs.Ytoajlogbdkinkaa
open Go.RowKit
set_option linter.unusedVariables false
theorem foldl_max_out (xs : List Int) : ∀ (a b : Int), xs.foldl max (max a b) = max a (xs.foldl max b) := by
  induction xs with
  | nil => intro a b; rfl
  | cons x xs ih => intro a b; simp only [List.foldl_cons]; rw [show max (max a b) x = max a (max b x) by omega, ih]
theorem mostOf_cons (x : Int) (xs : List Int) : mostOf (x :: xs) = max x (mostOf xs) := by
  unfold mostOf; rw [List.foldl_cons, show max NEV x = max x NEV by omega, foldl_max_out]
theorem mostOf_rev (xs : List Int) : mostOf xs.reverse = mostOf xs := by
  induction xs with
  | nil => rfl
  | cons x xs ih => rw [List.reverse_cons, mostOf_snoc, ih, mostOf_cons]; omega
theorem nowOf_rev (xs : List Int) (b : Int) : nowOf xs.reverse b = nowOf xs b := by unfold nowOf; rw [mostOf_rev]; simp
def clOk (st : Int × List Int) : Prop := (st.2 = [] → st.1 = NEV) ∧ (∀ i, i + 1 = st.2.length → st.2[i]? = some st.1)
theorem clOk_run (ys : List Int) : ∀ st, clOk st → clOk (ys.foldl clStep st) ∧ (ys.foldl clStep st).1 = ys.foldl max st.1 := by
  induction ys with
  | nil => intro st h; exact ⟨h, rfl⟩
  | cons y ys ih =>
    intro st h
    simp only [List.foldl_cons]
    by_cases hlt : st.1 < y
    · rw [clStep_pos hlt, show max st.1 y = y by omega]
      refine ih (y, st.2 ++ [y]) ⟨fun e => absurd e (by simp), fun i hi => ?_⟩
      have e : i = st.2.length := by simp at hi; omega
      subst e; simp
    · rw [clStep_neg hlt, show max st.1 y = st.1 by omega]
      exact ih st h
theorem clAll_last (ys : List Int) : (clAll ys = [] → mostOf ys = NEV) ∧ ∀ i, i + 1 = (clAll ys).length → (clAll ys)[i]? = some (mostOf ys) := by
  have h := clOk_run ys (NEV, []) ⟨fun _ => rfl, fun i hi => absurd hi (by simp)⟩
  obtain ⟨⟨h1, h2⟩, h3⟩ := h
  rw [show ys.foldl max (NEV, ([] : List Int)).1 = mostOf ys from rfl] at h3
  rw [h3] at h1 h2
  exact ⟨h1, h2⟩
theorem most_after (xs : List Int) (b : Int) (h : ∀ x ∈ xs, I64 x) : mostOf (xs.map (bAfter · b)) = nowOf xs b := by
  induction xs with
  | nil => rfl
  | cons x xs ih =>
    have hx := h x (List.mem_cons_self ..)
    have hb := I64.bAfter x b
    rw [List.map_cons, mostOf_cons, ih (fun y hy => h y (List.mem_cons_of_mem _ hy))]
    have h2 : nowOf (x :: xs) b = bAfter (max x (mostOf xs)) b := by unfold nowOf; rw [if_neg (by simp), mostOf_cons]
    rw [h2]
    by_cases h0 : xs = []
    · subst h0
      rw [show nowOf [] b = NEV from rfl, show mostOf [] = NEV from rfl]
      have h3 := nev_le hx
      have h4 := nev_le hb
      rw [show max x NEV = x by omega]; omega
    · unfold nowOf
      rw [if_neg h0]
      rcases Int.le_total x (mostOf xs) with h5 | h5
      · have := bAfter_mono b h5
        rw [show max x (mostOf xs) = mostOf xs by omega]; omega
      · have := bAfter_mono b h5
        rw [show max x (mostOf xs) = x by omega]; omega
theorem clAll_len (ys : List Int) : (clAll ys).length ≤ ys.length := by have := clStep_len ys (NEV, []); simpa [clAll] using this
end Go.Proofs.Ytoajlogbdkinkaa
