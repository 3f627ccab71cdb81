
/- The reference of layer 12 (percent), walked; lags as a plain law. No condition. -/
import Derived.Test.YtckndjgdfhbgcaaDoorPercent
namespace Go.Proofs.YtckndjgdfhbgcaaDoor
set_option maxRecDepth 100000
set_option linter.unusedSimpArgs false
open Go.RowKit
set_option linter.unusedVariables false

def lagsOf (l : List Int) : List Int := (List.range l.length).map (fun i => satSub (mostOf (l.take (i + 1))) (l.getD i 0))
def winL (n : Nat) (l : List Int) : List Int := (lagsOf l).drop (l.length - n)
theorem lagsOf_len (l : List Int) : (lagsOf l).length = l.length := by unfold lagsOf; simp
theorem lagsOf_get {l : List Int} {i : Nat} {x : Int} (hx : l[i]? = some x) : (lagsOf l)[i]? = some (satSub (mostOf (l.take (i + 1))) x) := by
  have hi := (List.getElem?_eq_some_iff.1 hx).1
  unfold lagsOf
  rw [List.getElem?_map, List.getElem?_range hi]
  simp [List.getD, hx]
theorem lagsOf_snoc (l : List Int) (x : Int) : lagsOf (l ++ [x]) = lagsOf l ++ [satSub (max (mostOf l) x) x] := by
  apply List.ext_getElem?
  intro i
  rcases Nat.lt_trichotomy i l.length with h | h | h
  · have hx : l[i]? = some l[i] := List.getElem?_eq_getElem h
    have hx2 : (l ++ [x])[i]? = some l[i] := by rw [List.getElem?_append_left h]; exact hx
    rw [lagsOf_get hx2, List.getElem?_append_left (by rw [lagsOf_len]; exact h), lagsOf_get hx, List.take_append_of_le_length (by omega)]
  · subst h
    have hx2 : (l ++ [x])[l.length]? = some x := by simp
    rw [lagsOf_get hx2, List.getElem?_append_right (by rw [lagsOf_len]; exact Nat.le_refl _), lagsOf_len, Nat.sub_self, List.take_of_length_le (by simp), mostOf_snoc]; rfl
  · rw [List.getElem?_eq_none (by rw [lagsOf_len]; simp; omega), List.getElem?_eq_none (by simp [lagsOf_len]; omega)]
theorem winL_snoc (n : Nat) (l : List Int) (x : Int) (hn : 0 < n) : winL n (l ++ [x]) = pushQ n (winL n l) (satSub (max (mostOf l) x) x) := by
  unfold winL pushQ
  rw [lagsOf_snoc, List.length_append, List.length_singleton]
  by_cases h : l.length < n
  · rw [if_pos (by simp [lagsOf_len]; omega), show l.length + 1 - n = 0 by omega, show l.length - n = 0 by omega]; rfl
  · rw [if_neg (by simp [lagsOf_len]; omega), show l.length + 1 - n = (l.length - n) + 1 by omega, List.drop_append_of_le_length (by rw [lagsOf_len]; omega), List.tail_drop]
theorem winL_len (n : Nat) (l : List Int) : (winL n l).length = l.length - (l.length - n) := by unfold winL; rw [List.length_drop, lagsOf_len]
theorem winL_I64 (n : Nat) (l : List Int) : ∀ x ∈ winL n l, I64 x := by
  intro x hx
  have := List.mem_of_mem_drop hx
  unfold lagsOf at this
  obtain ⟨i, _, rfl⟩ := List.mem_map.1 this
  exact I64.satSub _ _
theorem push_row {P : Program} (w : World) (t ty e : TypeId) (ht : P.underlying t = some (.slice e)) (hinfo : (P.info? e).map (fun i => (i.zero, i.size, i.bytes)) = some (some (.int .i64 0), 1, 8)) (q : List Int) (hq : q.length ≤ 100000) (n : Int) (v1 : Value)
    (W : World) (M : Nat) (ho : W.ownsRow w.heap.size e 1 v1 q.length (q.map (.int .i64))) (hB : Below w.heap.size w W) (hr : Rd W (some ⟨M, 0, none⟩) [.int .i64 n]) :
    ∃ v' w', (Builtin.append_ #[t, t] ty #[v1, .slice (some ⟨M, 0, none⟩) 1 1]).run P W = .ok v' w' ∧ Hid (w'.ownsRow w.heap.size e 1 v' (q ++ [n]).length ((q ++ [n]).map (.int .i64)) ∧ Below w.heap.size w w') :=
  more_row w t ty e ht hinfo q hq n v1 W M (by rw [Nat.zero_add, List.nil_append]; exact ho) hB hr
/-- What stands in the window of the first k numbers of l, as far as the i-th. -/
def lagsTo (n : Nat) (l : List Int) (i : Nat) : List Int := (lagsOf l).take i |>.drop (l.length - n)
theorem lagsTo_in {n : Nat} {l : List Int} {i : Nat} {x : Int} (hx : l[i]? = some x) (h : l.length ≤ i + n) : lagsTo n l (i + 1) = lagsTo n l i ++ [satSub (mostOf (l.take (i + 1))) x] := by
  have hi := (List.getElem?_eq_some_iff.1 hx).1
  unfold lagsTo
  rw [take_snoc' (lagsOf_get hx), List.drop_append_of_le_length (by rw [List.length_take, lagsOf_len]; omega)]
theorem lagsTo_out {n : Nat} {l : List Int} {i : Nat} (h : ¬ l.length ≤ i + n) : lagsTo n l (i + 1) = [] ∧ lagsTo n l i = [] := by
  unfold lagsTo
  exact ⟨List.drop_eq_nil_of_le (by rw [List.length_take]; omega), List.drop_eq_nil_of_le (by rw [List.length_take]; omega)⟩
/-- How far time has come, by all: the greatest of what each beginning says. -/
def pNow (l : List Int) (p : Int) (n : Nat) : Nat → Int
  | 0 => NEV
  | i + 1 => max (pNow l p n i) (bAfter (mostOf (l.take (i + 1))) (pLag (winL n (l.take (i + 1))) p))
theorem pNow_I64 (l : List Int) (p : Int) (n : Nat) : ∀ i, I64 (pNow l p n i)
  | 0 => I64.nev
  | i + 1 => by
    rw [pNow]
    have h1 := pNow_I64 l p n i
    have h2 := I64.bAfter (mostOf (l.take (i + 1))) (pLag (winL n (l.take (i + 1))) p)
    unfold I64 at *; omega
end Go.Proofs.YtckndjgdfhbgcaaDoor
