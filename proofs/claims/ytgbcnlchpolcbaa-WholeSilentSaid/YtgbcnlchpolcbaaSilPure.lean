
/- Who is silent doesn't count: the plain law. No program. -/
import Derived.Test.YtgbcnlchpolcbaaIdle
import Derived.Test.YtgbcnlchpolcbaaTree
namespace Go.Proofs.Ytgbcnlchpolcbaa
set_option maxRecDepth 100000
set_option linter.unusedSimpArgs false
open Go.RowKit
set_option linter.unusedVariables false
set_option linter.unusedSimpArgs false

/-- so far those before k have been asked -/
def RK (now wait : Int) (k : Nat) (st : List (Int × Int)) (last : List Int) (outs : List Bool) : Prop :=
  st.length = last.length ∧ outs.length = last.length ∧ ∀ (i : Nat) (s : Int × Int) (la : Int) (o : Bool), st[i]? = some s → last[i]? = some la → outs[i]? = some o →
    (s.2 = 0 ∨ s.2 = 1 ∨ s.2 = 2) ∧ s.1 = la + wait ∧ 0 ≤ la ∧ la ≤ now ∧ (s.2 = 1 → s.1 ≤ now) ∧ o = decide (s.2 ≠ 0) ∧ (i < k → s.2 = 0 → now < s.1)
section
variable {now now' wait : Int} {k : Nat} {st : List (Int × Int)} {last : List Int} {outs : List Bool}
theorem RK.go (h : RK now wait k st last outs) (hn : now ≤ now') : RK now' wait 0 st last outs := by
  obtain ⟨h1, h2, h3⟩ := h
  refine ⟨h1, h2, fun i s la o a b c => ?_⟩
  obtain ⟨g1, g2, g3, g4, g5, g6, g7⟩ := h3 i s la o a b c
  exact ⟨g1, g2, g3, by omega, fun e => by have := g5 e; omega, g6, fun hk => absurd hk (by omega)⟩
theorem RK.all (h : RK now wait k st last outs) (hk : last.length ≤ k) (j : Nat) : RK now wait j st last outs := by
  obtain ⟨h1, h2, h3⟩ := h
  refine ⟨h1, h2, fun i s la o a b c => ?_⟩
  obtain ⟨g1, g2, g3, g4, g5, g6, g7⟩ := h3 i s la o a b c
  have hi : i < last.length := (List.getElem?_eq_some_iff.1 b).1
  exact ⟨g1, g2, g3, g4, g5, g6, fun _ => g7 (by omega)⟩
theorem RK.tick (h : RK now wait k st last outs) {u is : Int} (hs : st[k]? = some (u, is)) :
    RK now wait (k + 1) (st.set k (u, iTickIs is u now)) last (if iTickB is u now = true then outs.set k true else outs) := by
  obtain ⟨h1, h2, h3⟩ := h
  have hk : k < st.length := (List.getElem?_eq_some_iff.1 hs).1
  refine ⟨by rw [List.length_set]; exact h1, by split <;> simp [h2], fun i s la o a b c => ?_⟩
  by_cases hik : i = k
  · subst hik
    rw [List.getElem?_set_self hk] at a
    have hs2 := Option.some.inj a
    subst hs2
    have ho : ∃ o', outs[i]? = some o' := ⟨_, List.getElem?_eq_getElem (by omega)⟩
    obtain ⟨o', ho'⟩ := ho
    obtain ⟨g1, g2, g3, g4, g5, g6, g7⟩ := h3 i (u, is) la o' hs b ho'
    simp only at g1 g2 g5 g6 g7 ⊢
    unfold iTickB iTickIs at *
    by_cases hc : is = 0 ∧ u ≤ now
    · rw [if_pos hc]
      rw [if_pos (by simpa using hc), List.getElem?_set_self (by omega)] at c
      have := Option.some.inj c
      subst this
      exact ⟨.inr (.inl rfl), g2, g3, g4, fun _ => hc.2, by simp, fun _ e => absurd e (by decide)⟩
    · rw [if_neg hc]
      rw [if_neg (by simpa using hc)] at c
      rw [ho'] at c
      have := Option.some.inj c
      subst this
      exact ⟨g1, g2, g3, g4, g5, g6, fun _ e => by
        apply Classical.byContradiction; intro hn; exact hc ⟨e, by omega⟩⟩
  · rw [List.getElem?_set_ne (fun e => hik e.symm)] at a
    have c' : outs[i]? = some o := by
      split at c
      · rwa [List.getElem?_set_ne (fun e => hik e.symm)] at c
      · exact c
    obtain ⟨g1, g2, g3, g4, g5, g6, g7⟩ := h3 i s la o a b c'
    exact ⟨g1, g2, g3, g4, g5, g6, fun hlt => g7 (by omega)⟩
theorem RK.end_ (h : RK now wait k st last outs) {j : Nat} {u is : Int} (hs : st[j]? = some (u, is)) :
    RK now wait k (st.set j (u, iEnd is 2)) last (outs.set j true) := by
  obtain ⟨h1, h2, h3⟩ := h
  have hk : j < st.length := (List.getElem?_eq_some_iff.1 hs).1
  refine ⟨by rw [List.length_set]; exact h1, by rw [List.length_set]; exact h2, fun i s la o a b c => ?_⟩
  by_cases hik : i = j
  · subst hik
    rw [List.getElem?_set_self hk] at a
    rw [List.getElem?_set_self (by omega)] at c
    have hs2 := Option.some.inj a
    have ho2 := Option.some.inj c
    subst hs2 ho2
    obtain ⟨o', ho'⟩ : ∃ o', outs[i]? = some o' := ⟨_, List.getElem?_eq_getElem (by omega)⟩
    obtain ⟨g1, g2, g3, g4, g5, g6, g7⟩ := h3 i (u, is) la o' hs b ho'
    simp only at g1 g2 g5 g6 g7 ⊢
    have he : iEnd is 2 = 2 := by
      unfold iEnd idleOver
      rcases g1 with e | e | e <;> subst e <;> rfl
    rw [he]
    exact ⟨.inr (.inr rfl), g2, g3, g4, fun e => absurd e (by decide), by simp, fun _ e => absurd e (by decide)⟩
  · rw [List.getElem?_set_ne (fun e => hik e.symm)] at a c
    exact h3 i s la o a b c
theorem RK.read (h : RK now wait k st last outs) {j : Nat} {u is : Int} (hs : st[j]? = some (u, is)) (hov : idleOver is = false) (hw : 0 < wait) (h0 : 0 ≤ now) (hb : now + wait ≤ 1000000) :
    RK now wait k (st.set j (iReadU is u now wait, iEnd is 0)) (last.set j now) (outs.set j false) := by
  obtain ⟨h1, h2, h3⟩ := h
  have hk : j < st.length := (List.getElem?_eq_some_iff.1 hs).1
  refine ⟨by simp [h1], by simp [h2], fun i s la o a b c => ?_⟩
  by_cases hik : i = j
  · subst hik
    rw [List.getElem?_set_self hk] at a
    rw [List.getElem?_set_self (by omega)] at b c
    have hs2 := Option.some.inj a
    have hl2 := Option.some.inj b
    have ho2 := Option.some.inj c
    subst hs2 hl2 ho2
    have hu : iReadU is u now wait = now + wait := by
      rw [iReadU_not hov]; unfold satAdd; rw [show max wait 0 = wait by omega]; split
      · omega
      · split <;> omega
    rw [hu, iEnd_not hov]
    exact ⟨.inl rfl, rfl, h0, Int.le_refl _, fun e => absurd (show (0 : Int) = 1 from e) (by decide), by simp, fun _ _ => by show now < now + wait; omega⟩
  · rw [List.getElem?_set_ne (fun e => hik e.symm)] at a b c
    exact h3 i s la o a b c
/-- who is active, by the clock, and as it is told -/
theorem RK.act (h : RK now wait k st last outs) (hk : last.length ≤ k) {i : Nat} {u is la : Int} (hs : st[i]? = some (u, is)) (hl : last[i]? = some la) :
    (!idleOver is && decide (now < la + wait)) = decide (is = 0) ∧ innOf outs i = decide (is = 0) := by
  obtain ⟨h1, h2, h3⟩ := h
  have hi : i < last.length := (List.getElem?_eq_some_iff.1 hl).1
  obtain ⟨o, ho⟩ : ∃ o, outs[i]? = some o := ⟨_, List.getElem?_eq_getElem (by omega)⟩
  obtain ⟨g1, g2, g3, g4, g5, g6, g7⟩ := h3 i (u, is) la o hs hl ho
  simp only at g1 g2 g5 g6 g7
  constructor
  · unfold idleOver
    rcases g1 with e | e | e
    · subst e
      have := g7 (by omega) rfl
      simp; omega
    · subst e
      have := g5 rfl
      simp; omega
    · subst e; simp
  · unfold innOf
    rw [List.getD_eq_getElem?_getD, ho]
    subst g6
    rcases g1 with e | e | e <;> subst e <;> rfl
end
/-- the least number so far, and whether there is one -/
def lkP (keys : List Int) (outs : List Bool) (k : Nat) : Int := if best (keyOf keys) (innOf outs) 0 k = -1 then 0 else keyOf keys (best (keyOf keys) (innOf outs) 0 k)
def loP (keys : List Int) (outs : List Bool) (k : Nat) : Bool := best (keyOf keys) (innOf outs) 0 k != -1
theorem lk_next (keys : List Int) (outs : List Bool) (k : Nat) (x : Int) (hx : keys[k]? = some x) :
    (lkP keys outs (k + 1), loP keys outs (k + 1)) = (if innOf outs k = true ∧ (loP keys outs k = false ∨ x < lkP keys outs k) then (x, true) else (lkP keys outs k, loP keys outs k)) := by
  have hkx : keyOf keys (k : Int) = x := by unfold keyOf; rw [Int.toNat_natCast, List.getD_eq_getElem?_getD, hx]; rfl
  have hb : best (keyOf keys) (innOf outs) 0 (k + 1) = better (keyOf keys) (best (keyOf keys) (innOf outs) 0 k) (if innOf outs k = true then (k : Int) else -1) := by
    rw [best, Nat.zero_add]
  have hin := best_in (keyOf keys) (innOf outs) 0 k
  unfold lkP loP
  rw [hb]
  generalize best (keyOf keys) (innOf outs) 0 k = b at *
  by_cases hi : innOf outs k = true
  · rw [if_pos hi]
    have hk1 : ¬ ((k : Int) = -1) := by omega
    by_cases h1 : b = -1
    · subst h1
      have hbb : better (keyOf keys) (-1) (k : Int) = (k : Int) := by unfold better; rw [if_pos rfl]
      rw [hbb]
      simp [hi, hkx, hk1]
    · rcases hin with h | ⟨j, hj, -, -, -⟩
      · exact absurd h h1
      · subst hj
        by_cases hle : keyOf keys (j : Int) ≤ keyOf keys (k : Int)
        · have hbb : better (keyOf keys) (j : Int) (k : Int) = (j : Int) := by unfold better; rw [if_neg h1]; exact if_pos (Or.inr hle)
          rw [hbb]
          rw [hkx] at hle
          have hn : ¬ (x < keyOf keys (j : Int)) := by omega
          simp [h1, hi, hn]
        · have hbb : better (keyOf keys) (j : Int) (k : Int) = (k : Int) := by unfold better; rw [if_neg h1]; exact if_neg (fun h => h.elim hk1 hle)
          rw [hbb]
          rw [hkx] at hle
          have hn : x < keyOf keys (j : Int) := by omega
          simp [h1, hi, hn, hk1, hkx]
  · rw [if_neg hi, better_none]
    simp [hi]
end Go.Proofs.Ytgbcnlchpolcbaa
