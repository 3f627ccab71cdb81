
/- A ring as a list: what its places hold. Plain law, no program. -/
import Derived.Test.YtckndjgdfhbgcaaDoorLib
namespace Go.Proofs.YtckndjgdfhbgcaaDoor
set_option maxRecDepth 100000
set_option linter.unusedSimpArgs false

set_option linter.unusedVariables false
theorem mod2 {a n : Nat} (hn : 0 < n) (h : a < 2 * n) : a % n = if a < n then a else a - n := by
  split
  · exact Nat.mod_eq_of_lt ‹_›
  · rw [Nat.mod_eq_sub_mod (by omega)]; exact Nat.mod_eq_of_lt (by omega)

/-- The cells of a ring of n places hold q, the eldest at place 'first'. -/
def Holds {α : Type} (f : α → Value) (n first : Nat) (cs : Array Value) (q : List α) : Prop :=
  cs.size = n ∧ first < n ∧ q.length ≤ n ∧ ∀ i x, q[i]? = some x → cs[(first + i) % n]? = some (f x)

theorem Holds.none {α : Type} (f : α → Value) (n : Nat) (hn : 0 < n) (cs : Array Value) (hc : cs.size = n) : Holds f n 0 cs [] := ⟨hc, hn, by simp, fun i x h => by simp at h⟩

theorem Holds.push {α : Type} {f : α → Value} {n first : Nat} {cs : Array Value} {q : List α} (h : Holds f n first cs q) (hq : q.length < n) (x : α) :
    Holds f n first (cs.setIfInBounds ((first + q.length) % n) (f x)) (q ++ [x]) := by
  obtain ⟨h1, h2, h3, h4⟩ := h
  refine ⟨by simpa using h1, h2, by simp; omega, fun i y hy => ?_⟩
  have hn : 0 < n := by omega
  have hm := mod2 hn (a := first + q.length) (by omega)
  have hlt := Nat.mod_lt (first + q.length) hn
  rw [Array.getElem?_setIfInBounds]
  by_cases hi : i < q.length
  · rw [List.getElem?_append_left hi] at hy
    have hm2 := mod2 hn (a := first + i) (by omega)
    rw [if_neg (by rw [hm, hm2]; split <;> split <;> omega)]
    exact h4 i y hy
  · have hlen := (List.getElem?_eq_some_iff.1 hy).1
    simp at hlen
    have : i = q.length := by omega
    subst this
    rw [List.getElem?_append_right (Nat.le_refl _), Nat.sub_self] at hy
    simp at hy
    subst hy
    rw [if_pos rfl, if_pos (by omega)]

theorem Holds.turn {α : Type} {f : α → Value} {n first : Nat} {cs : Array Value} {y : α} {q : List α} (h : Holds f n first cs (y :: q)) (hq : (y :: q).length = n) (x : α) :
    cs[first]? = some (f y) ∧ Holds f n ((first + 1) % n) (cs.setIfInBounds first (f x)) (q ++ [x]) := by
  obtain ⟨h1, h2, h3, h4⟩ := h
  have hn : 0 < n := by omega
  simp at hq
  refine ⟨by have := h4 0 y rfl; rwa [Nat.add_zero, Nat.mod_eq_of_lt h2] at this, by simpa using h1, Nat.mod_lt _ hn, by simp; omega, fun i z hz => ?_⟩
  have hm := mod2 hn (a := first + 1) (by omega)
  have hlt := Nat.mod_lt (first + 1) hn
  rw [Array.getElem?_setIfInBounds]
  by_cases hi : i < q.length
  · rw [List.getElem?_append_left hi] at hz
    have hm2 := mod2 hn (a := (first + 1) % n + i) (by omega)
    have hm3 := mod2 hn (a := first + (i + 1)) (by omega)
    have e : ((first + 1) % n + i) % n = (first + (i + 1)) % n := by
      rw [Nat.mod_add_mod]; congr 1; omega
    rw [e, if_neg (by rw [hm3]; split <;> omega)]
    exact h4 (i + 1) z (by simpa using hz)
  · have hlen := (List.getElem?_eq_some_iff.1 hz).1
    simp at hlen
    have : i = q.length := by omega
    subst this
    rw [List.getElem?_append_right (Nat.le_refl _), Nat.sub_self] at hz
    simp at hz
    subst hz
    have e : ((first + 1) % n + q.length) % n = first := by
      rw [Nat.mod_add_mod, show first + 1 + q.length = first + n by omega, Nat.add_mod_right, Nat.mod_eq_of_lt h2]
    rw [e, if_pos rfl, if_pos (by omega)]

theorem Holds.at_ {α : Type} {f : α → Value} {n first : Nat} {cs : Array Value} {q : List α} (h : Holds f n first cs q) {i : Nat} (hi : i < q.length) :
    ∃ x, q[i]? = some x ∧ cs[(first + i) % n]? = some (f x) := ⟨_, List.getElem?_eq_getElem hi, h.2.2.2 i _ (List.getElem?_eq_getElem hi)⟩

/-- The last n of a row. -/
def lastN {α : Type} (n : Nat) (xs : List α) : List α := xs.drop (xs.length - n)
theorem lastN_len {α : Type} (n : Nat) (xs : List α) : (lastN n xs).length = min n xs.length := by simp [lastN]; omega
theorem lastN_push {α : Type} {n : Nat} (hn : 0 < n) (xs : List α) (x : α) :
    (if (lastN n xs).length < n then lastN n xs ++ [x] else (lastN n xs).tail ++ [x]) = lastN n (xs ++ [x]) := by
  have hl := lastN_len n xs
  split
  · have h0 : xs.length - n = 0 := by omega
    have h1 : (xs ++ [x]).length - n = 0 := by simp; omega
    simp only [lastN]
    rw [h0, h1]; simp
  · unfold lastN
    rw [List.tail_drop, List.length_append, List.length_singleton, show xs.length + 1 - n = xs.length - n + 1 by omega, List.drop_append_of_le_length (by omega)]
theorem lastN_get {α : Type} {n : Nat} {xs : List α} {j : Nat} (h : j < min n xs.length) : (lastN n xs)[j]? = xs[xs.length - n + j]? := by
  simp [lastN, List.getElem?_drop]
end Go.Proofs.YtckndjgdfhbgcaaDoor
