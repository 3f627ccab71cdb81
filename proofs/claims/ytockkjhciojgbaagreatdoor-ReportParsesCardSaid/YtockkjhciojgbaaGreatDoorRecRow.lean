
/- Rows of records, as lists. No condition. -/
import Derived.Test.YtockkjhciojgbaaGreatDoorCells
import Derived.Test.YtockkjhciojgbaaGreatDoorPackA
namespace Go.Proofs.YtockkjhciojgbaaGreatDoor
set_option maxRecDepth 100000
set_option linter.unusedSimpArgs false
open Go.RowKit
set_option linter.unusedVariables false
set_option linter.unusedSimpArgs false

abbrev Rec := Int × Int × ByteArray
def RRec (w : World) (cs : List Value) (x : Rec) : Prop := cs.length = 3 ∧ RInt .i64 w ((cs.drop 0).take 1) x.1 ∧ RInt .i64 w ((cs.drop 1).take 1) x.2.1 ∧ RStr w ((cs.drop 2).take 1) x.2.2
theorem RRec.cells {w : World} {cs : List Value} {x : Rec} (h : RRec w cs x) : cs = [.int .i64 x.1, .int .i64 x.2.1, .string x.2.2] ∧ I64 x.1 ∧ I64 x.2.1 ∧ x.2.2.size ≤ maxLen := by
  obtain ⟨hl, ⟨h1, w1⟩, ⟨h2, w2⟩, ⟨h3, w3⟩⟩ := h
  match cs, hl with
  | [a, b, c], _ =>
    simp at h1 h2 h3
    subst h1 h2 h3
    exact ⟨rfl, I64.of_wf w1, I64.of_wf w2, w3⟩
def fRec (r : Rec) : List Value := [.int .i64 r.1, .int .i64 r.2.1, .string r.2.2]
def recC (l : List Rec) : List Value := l.flatMap fRec
theorem recC_snoc (l : List Rec) (r : Rec) : recC (l ++ [r]) = recC l ++ fRec r := by unfold recC; simp
theorem fRec_one (r : Rec) : ∀ u ∈ fRec r, u.oneCell' = true := by
  intro u hu
  unfold fRec at hu
  simp at hu
  rcases hu with h | h | h <;> rw [h] <;> rfl
theorem recC_get : ∀ {l : List Rec} {j : Nat} {x : Rec}, l[j]? = some x → (recC l)[j * 3]? = some (.int .i64 x.1) ∧ (recC l)[j * 3 + 1]? = some (.int .i64 x.2.1) ∧ (recC l)[j * 3 + 2]? = some (.string x.2.2)
  | [], j, x, h => by simp at h
  | r :: l, 0, x, h => by
    simp at h; subst h
    exact ⟨rfl, rfl, rfl⟩
  | r :: l, j + 1, x, h => by
    have ih := recC_get (l := l) (j := j) (x := x) (by simpa using h)
    rw [show (j + 1) * 3 = j * 3 + 1 + 1 + 1 by omega]
    exact ih
theorem rd_recS {w : World} {A : Option Addr} {l : List Rec} (h : Rd w A (recC l)) : RdS w A 3 fRec l := fun j x hx => by
  obtain ⟨g0, g1, g2⟩ := recC_get hx
  obtain ⟨ad, hA, c0⟩ := h _ _ g0
  refine ⟨ad, hA, rfl, fun i u hi => ?_⟩
  match i, hi with
  | 0, hi =>
    simp [fRec] at hi; subst hi
    rw [add_add']; exact c0
  | 1, hi =>
    simp [fRec] at hi; subst hi
    obtain ⟨ad', hA', c1⟩ := h _ _ g1
    rw [hA] at hA'; injection hA' with hA'; subst hA'
    rw [add_add']; exact c1
  | 2, hi =>
    simp [fRec] at hi; subst hi
    obtain ⟨ad', hA', c1⟩ := h _ _ g2
    rw [hA] at hA'; injection hA' with hA'; subst hA'
    rw [add_add']; exact c1
/-- The three cells of a row's record, in the walk's spelling. -/
theorem RdS.rec {w : World} {A : Option Addr} {l : List Rec} (h : RdS w A 3 fRec l) {j : Nat} {x : Rec} (hx : l[j]? = some x) :
    ∃ ad, A = some ad ∧ w.cell? (ad.add (j * 3)) = some (.int .i64 x.1) ∧ w.cell? ⟨(ad.add (j * 3)).block, (ad.add (j * 3)).off + 1, none⟩ = some (.int .i64 x.2.1) ∧ w.cell? ⟨(ad.add (j * 3)).block, (ad.add (j * 3)).off + 2, none⟩ = some (.string x.2.2) := by
  obtain ⟨ad, e, _, hc⟩ := h j x hx
  exact ⟨ad, e, hc 0 _ rfl, hc 1 _ rfl, hc 2 _ rfl⟩
theorem RdS.take {w : World} {A : Option Addr} {l : List Rec} (h : RdS w A 3 fRec l) (n : Nat) : RdS w A 3 fRec (l.take n) := fun j x hx => by
  rw [List.getElem?_take] at hx
  split at hx
  · exact h j x hx
  · cases hx
def rowR (w : World) (A : Option Addr) (l : List Rec) : Prop := ∀ j x, l[j]? = some x → ∃ ad row, A = some ad ∧ RRec w row x ∧ row.length = 3 ∧ ∀ i u, row[i]? = some u → w.cell? ((ad.add (j * 3)).add i) = some u
theorem rowR.rds {w : World} {A : Option Addr} {l : List Rec} (h : rowR w A l) : RdS w A 3 fRec l := fun j x hj => by
  obtain ⟨ad, row, e, ha, hl, hc⟩ := h j x hj
  obtain ⟨rfl, _⟩ := ha.cells
  exact ⟨ad, e, rfl, hc⟩
theorem rowR.i64 {w : World} {A : Option Addr} {l : List Rec} (h : rowR w A l) : ∀ r ∈ l, I64 r.2.1 ∧ r.2.2.size ≤ maxLen := fun r hr => by
  obtain ⟨j, hj⟩ := List.getElem?_of_mem hr
  obtain ⟨ad, row, e, ha, hl, hc⟩ := h j r hj
  exact ⟨ha.cells.2.2.1, ha.cells.2.2.2⟩
end Go.Proofs.YtockkjhciojgbaaGreatDoor
