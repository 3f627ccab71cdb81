
/- In whatever order numbers come, walked. No condition. -/
import Derived.Test.YtckndjgdfhbgcaaDoorLawHistB
namespace Go.Proofs.YtckndjgdfhbgcaaDoor
set_option maxRecDepth 100000
set_option linter.unusedSimpArgs false
open Go.RowKit
set_option linter.unusedVariables false

/-- Two Hists side by side, and a row of whole numbers. -/
def SH2 (w0 w : World) (g g' : Nat) (v : Value) (bs : List (Int × Nat)) (v' : Value) (bs' : List (Int × Nat)) (lv : Value) (l : List Int) : Prop :=
  SH w0 w g v bs lv l ∧ g ≠ g' ∧ (∀ k, v.ownBlock = some k → v'.ownBlock ≠ some k) ∧ SH w0 w g' v' bs' lv l
section
variable {w0 w : World} {g g' : Nat} {v v' : Value} {bs bs' : List (Int × Nat)} {lv : Value} {l : List Int}
theorem SH2.swap (h : SH2 w0 w g g' v bs v' bs' lv l) : SH2 w0 w g' g v' bs' v bs lv l := ⟨h.2.2.2, fun e => h.2.1 e.symm, fun k hk e => h.2.2.1 k e hk, h.1⟩
theorem SH.modfar {w' : World} {S : Nat → Prop} (h : SH w0 w g v bs lv l) (hb : Below w0.heap.size w0 w') (hm : Mod S w w') (h1 : ¬ S g) (h2 : ∀ k, v.ownBlock = some k → ¬ S k) (h3 : ∀ k, lv.ownBlock = some k → ¬ S k) : SH w0 w' g v bs lv l := by
  obtain ⟨a1, a2, ⟨cs, a3⟩, a4⟩ := h
  exact ⟨hb, a2, ⟨cs, a3.mod hm h1 h2⟩, own_mod a4 hm h3⟩
theorem SH.sep (h : SH w0 w g v bs lv l) : (∀ k, v.ownBlock = some k → k ≠ g ∧ lv.ownBlock ≠ some k) ∧ lv.ownBlock ≠ some g := by
  obtain ⟨a1, a2, ⟨cs, a3⟩, a4⟩ := h
  exact ⟨fun k hk => ⟨fun e => a3.ne (by rw [hk, e]), fun e => own_own_ne a4 a3.2.2.2.1 (by decide) k e hk⟩, own_ne' a4 a3.1 (by decide)⟩
theorem SH2.add (h : SH2 w0 w g g' v bs v' bs' lv l) (n : Int) (hb : totB bs < 10000) :
    Calls Tryd.prog 28 #[.pointer (some ⟨g, 0, none⟩), .int .i64 n] w fun e w' => e = .returned (.tuple #[]) ∧ ∃ u, SH2 w0 w' g g' u (addB n bs) v' bs' lv l := by
  obtain ⟨h1, h2, h3, h4⟩ := h
  have s1 := h1.sep
  have s4 := h4.sep
  have hg' : g' < w.heap.size := h4.2.2.1.choose_spec.1.lt
  have hv' : ∀ k, v'.ownBlock = some k → k < w.heap.size := fun k hk => own_lt' h4.2.2.1.choose_spec.2.2.2.1 k hk
  have hsep : ∀ k, v.ownBlock = some k → k ≠ g' := fun k hk e => by
    subst e
    obtain ⟨_, _, ⟨cs, a3⟩, _⟩ := h4
    obtain ⟨_, _, ⟨cs1, b3⟩, _⟩ := h1
    exact own_ne' b3.2.2.2.1 a3.1 (by decide) hk
  have hsep' : ∀ k, v'.ownBlock = some k → k ≠ g := fun k hk e => by
    subst e
    obtain ⟨_, _, ⟨cs, a3⟩, _⟩ := h4
    obtain ⟨_, _, ⟨cs1, b3⟩, _⟩ := h1
    exact own_ne' a3.2.2.2.1 b3.1 (by decide) hk
  have hh := h1
  obtain ⟨a1, a2, ⟨cs0, a3⟩, a4⟩ := h1
  refine (a3.add n hb).mono ?_
  rintro e w' ⟨rfl, u, hi, hm, hu⟩
  have hS := hh.step hi hm
  refine ⟨rfl, u, hS, h2, fun k hk e => ?_, h4.modfar hS.1 hm ?_ ?_ ?_⟩
  · rcases hu with h | ⟨b, h, hle⟩
    · exact h3 k (by rw [← h]; exact hk) e
    · have := hv' k e; rw [hk] at h; injection h with h; omega
  · rintro (h | h)
    · exact h2 h.symm
    · exact hsep _ h rfl
  · rintro k hk (h | h)
    · exact hsep' k hk h
    · exact h3 k h hk
  · rintro k hk (h | h)
    · exact s1.2 (by rw [← h]; exact hk)
    · exact (s1.1 k h).2 hk
theorem SH2.below {w' : World} (h : SH2 w0 w g g' v bs v' bs' lv l) (hb : Below w.heap.size w w') : SH2 w0 w' g g' v bs v' bs' lv l := ⟨h.1.below hb, h.2.1, h.2.2.1, h.2.2.2.below hb⟩
theorem SH2.rank (h : SH2 w0 w g g' v bs v' bs' lv l) (k : Int) (hk : I64 k) :
    Calls Tryd.prog 43 #[.pointer (some ⟨g, 0, none⟩), .int .i64 k] w fun e w' => e = .returned (.tuple #[.int .i64 (rkR bs k).1, .bool (rkR bs k).2]) ∧ SH2 w0 w' g g' v bs v' bs' lv l := by
  have hh := h
  obtain ⟨⟨h1, h2, ⟨cs0, h3⟩, h4⟩, _⟩ := h
  exact (h3.rank k hk).mono fun e w' ⟨he, hb⟩ => ⟨he, hh.below hb⟩
theorem SH2.new_ {w0 w : World} (hb : Below w0.heap.size w0 w) : SH2 w0 ((w.alloc (.cells #[.slice none 0 0, .int .i64 0] 51)).alloc (.cells #[.slice none 0 0, .int .i64 0] 51)) w.heap.size (w.heap.size + 1) (.slice none 0 0) [] (.slice none 0 0) [] (.slice none 0 0) [] := by
  have h1 := SH.new_ hb
  have h2 := SH.new_ (bel_alloc hb (.cells #[.slice none 0 0, .int .i64 0] 51))
  rw [show (w.alloc (.cells #[.slice none 0 0, .int .i64 0] 51)).heap.size = w.heap.size + 1 by simp] at h2
  exact ⟨h1.below (bel_alloc (bel_refl _) _), by omega, fun k hk => by simp [Value.ownBlock] at hk, h2⟩
theorem SH2.setl {lv' : Value} {l' : List Int} {B : Nat} (h : SH2 w0 w g g' v bs v' bs' lv l) (hB : w0.heap.size ≤ B) (ho : w.ownsRow B 3 1 lv' l'.length (l'.map (.int .i64))) : SH2 w0 w g g' v bs v' bs' lv' l' :=
  ⟨h.1.setl hB ho, h.2.1, h.2.2.1, h.2.2.2.setl hB ho⟩
end
theorem sorted_unique {l : List Int} {bs bs' : List (Int × Nat)} (h : HistOf bs l) (h' : HistOf bs' l) (k : Int) : rkR bs k = rkR bs' k := by
  by_cases hk : k < 1
  · unfold rkR; rw [if_pos hk, if_pos hk]
  · rw [rk_least h k (by omega), rk_least h' k (by omega)]
/-- The k-th number: it stands in the row, ranks rise. -/
theorem rk_mem {l : List Int} {bs : List (Int × Nat)} (h : HistOf bs l) {k : Int} (h1 : 1 ≤ k) (h2 : k ≤ (l.length : Int)) : (rkR bs k).2 = true ∧ (rkR bs k).1 ∈ l ∧ k ≤ (belowL l (rkR bs k).1 : Int) ∧ ∀ x ∈ l, k ≤ (belowL l x : Int) → (rkR bs k).1 ≤ x := by
  have hi := lst_is h k
  rw [decide_eq_true ⟨h1, h2⟩] at hi
  refine ⟨hi, ?_⟩
  rw [rk_least h k h1] at hi ⊢
  obtain ⟨s1, s2⟩ := lst_spec (leastP l k) l
  obtain ⟨t1, t2, t3⟩ := s2 hi
  exact ⟨t1, of_decide_eq_true (show decide (k ≤ (belowL l (lstOf (leastP l k) l).1 : Int)) = true from t2), fun x hx hb => t3 x hx (show decide (k ≤ (belowL l x : Int)) = true from decide_eq_true hb)⟩

/-! ### a row, sorted -/
def Sorted (s : List Int) : Prop := ∀ (i j : Nat) (a b : Int), i ≤ j → s[i]? = some a → s[j]? = some b → a ≤ b
theorem belowL_split (s : List Int) (i : Nat) (x : Int) : belowL s x = belowL (s.take i) x + belowL (s.drop i) x := by
  unfold belowL; rw [← List.countP_append, List.take_append_drop]
theorem belowL_all {s : List Int} {x : Int} (h : ∀ y ∈ s, y ≤ x) : belowL s x = s.length := by
  unfold belowL; rw [List.countP_eq_length]; intro y hy; exact decide_eq_true (h y hy)
theorem belowL_no {s : List Int} {x : Int} (h : ∀ y ∈ s, x < y) : belowL s x = 0 := by
  unfold belowL; rw [List.countP_eq_zero]; intro y hy; have := h y hy; simp; omega
theorem rk_sorted {l s : List Int} {bs : List (Int × Nat)} (h : HistOf bs l) (hp : s.Perm l) (hs : Sorted s) {i : Nat} {a : Int} (ha : s[i]? = some a) : rkR bs ((i : Int) + 1) = (a, true) := by
  have hi := (List.getElem?_eq_some_iff.1 ha).1
  have hb : ∀ x, belowL l x = belowL s x := fun x => (hp.countP_eq _).symm
  obtain ⟨t1, t2, t3, t4⟩ := rk_mem h (k := (i : Int) + 1) (by omega) (by rw [← hp.length_eq]; omega)
  rw [show rkR bs ((i : Int) + 1) = ((rkR bs ((i : Int) + 1)).1, (rkR bs ((i : Int) + 1)).2) from rfl, t1]
  congr 1
  have hge : i + 1 ≤ belowL s a := by
    rw [belowL_split s (i + 1) a, belowL_all (s := s.take (i + 1)) (fun y hy => ?_)]
    · rw [List.length_take]; omega
    · obtain ⟨j, hj⟩ := List.mem_iff_getElem?.1 hy
      rw [List.getElem?_take] at hj
      split at hj
      · exact hs j i y a (by omega) hj ha
      · cases hj
  have h1 := t4 a (hp.mem_iff.1 (List.mem_of_getElem? ha)) (by rw [hb]; omega)
  apply Classical.byContradiction
  intro hne
  have hlt : (rkR bs ((i : Int) + 1)).1 < a := by omega
  rw [hb, belowL_split s i, belowL_no (s := s.drop i) (fun y hy => ?_)] at t3
  · have := belowL_le (s.take i) (rkR bs ((i : Int) + 1)).1
    rw [List.length_take] at this
    omega
  · obtain ⟨j, hj⟩ := List.mem_iff_getElem?.1 hy
    rw [List.getElem?_drop] at hj
    have := hs i (i + j) a y (by omega) ha hj
    omega
theorem drop_erase {s : List Int} {i : Nat} {a : Int} (ha : s[i]? = some a) : (s.drop i).erase a = s.drop (i + 1) := by
  have hi := (List.getElem?_eq_some_iff.1 ha)
  obtain ⟨hl, e⟩ := hi
  rw [List.drop_eq_getElem_cons hl, e, List.erase_cons_head]
theorem sort_ex (l : List Int) : ∃ s : List Int, s.Perm l ∧ Sorted s := by
  refine ⟨l.mergeSort (fun a b => decide (a ≤ b)), List.mergeSort_perm _ _, ?_⟩
  have h := List.pairwise_mergeSort (le := fun a b : Int => decide (a ≤ b)) (fun a b c h1 h2 => by simp at *; omega) (fun a b => by simp; omega) l
  intro i j a b hij ha hb
  rcases Nat.lt_or_ge i j with hlt | hge
  · rw [List.pairwise_iff_getElem] at h
    obtain ⟨hi, ea⟩ := List.getElem?_eq_some_iff.1 ha
    obtain ⟨hj, eb⟩ := List.getElem?_eq_some_iff.1 hb
    have := h i j hi hj hlt
    rw [ea, eb] at this
    simpa using this
  · have : i = j := by omega
    subst this; rw [ha] at hb; injection hb with hb; omega
theorem rev_take {l : List Int} {k : Nat} {x : Int} (hx : l[l.length - 1 - k]? = some x) (hk : k < l.length) : l.reverse.take (k + 1) = l.reverse.take k ++ [x] := by
  refine take_snoc' ?_
  rw [List.getElem?_reverse (by omega)]; exact hx
theorem totB_len {bs : List (Int × Nat)} {l : List Int} (h : HistOf bs l) : totB bs = l.length := h.tot
end Go.Proofs.YtckndjgdfhbgcaaDoor
