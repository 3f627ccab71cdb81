
/- Rows of structs read out of their cells. No condition. -/
import Derived.Test.YtockkjhciojgbaaGreatDoorCells
namespace Go.Proofs.YtockkjhciojgbaaGreatDoor
set_option maxRecDepth 100000
set_option linter.unusedSimpArgs false
open Go.RowKit
set_option linter.unusedVariables false

theorem flat_getG {α : Type} {f : α → List Value} {sz : Nat} (hl : ∀ x, (f x).length = sz) : ∀ {xs : List α} {j i : Nat} {x : α} {u : Value}, xs[j]? = some x → (f x)[i]? = some u → (xs.flatMap f)[j * sz + i]? = some u
  | [], j, i, x, u, h, _ => by simp at h
  | y :: xs, 0, i, x, u, h, hu => by
    simp at h; subst h
    have hi : i < (f y).length := (List.getElem?_eq_some_iff.1 hu).1
    rw [List.flatMap_cons, Nat.zero_mul, Nat.zero_add, List.getElem?_append_left hi]; exact hu
  | y :: xs, j + 1, i, x, u, h, hu => by
    rw [List.getElem?_cons_succ] at h
    rw [List.flatMap_cons, List.getElem?_append_right (by rw [hl, Nat.succ_mul]; omega), hl, show (j + 1) * sz + i - sz = j * sz + i by rw [Nat.succ_mul]; omega]
    exact flat_getG hl h hu
theorem RdS.of_rd' {α : Type} {w : World} {A : Option Addr} {f : α → List Value} {sz : Nat} (hl : ∀ x, (f x).length = sz) (hz : 0 < sz) {xs : List α} (h : Rd w A (xs.flatMap f)) : RdS w A sz f xs := by
  intro j x hx
  obtain ⟨u0, hu0⟩ : ∃ u, (f x)[0]? = some u := ⟨_, List.getElem?_eq_getElem (by rw [hl]; exact hz)⟩
  obtain ⟨ad, hA, -⟩ := h _ _ (flat_getG hl hx hu0)
  refine ⟨ad, hA, hl x, fun i u hu => ?_⟩
  obtain ⟨ad', hA', hc⟩ := h _ _ (flat_getG hl hx hu)
  rw [hA] at hA'; injection hA' with hA'; subst hA'
  rw [add_add']; exact hc
end Go.Proofs.YtockkjhciojgbaaGreatDoor
