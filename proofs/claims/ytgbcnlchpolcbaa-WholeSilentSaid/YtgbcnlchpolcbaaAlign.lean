
/- What the functions of align do. No condition. -/
import Derived.Test.YtgbcnlchpolcbaaClamp
import Derived.Deep.RegionHeld3
import Derived.BigRegion
import Derived.BigQuiet
namespace Go.Proofs.Ytgbcnlchpolcbaa
set_option maxRecDepth 100000
set_option linter.unusedSimpArgs false
open Go.RowKit
set_option linter.unusedVariables false

abbrev alLim (glob drift : Int) : Int := satAdd glob drift
def alPaused (l : List Int) (lim i : Int) : Bool := decide (0 ≤ i ∧ i < l.length ∧ lim < l.getD i.toNat 0)
theorem alPaused_at {l : List Int} {k : Nat} {x : Int} (hx : l[k]? = some x) (lim : Int) : alPaused l lim (k : Int) = decide (lim < x) := by
  have h1 : l.getD ((k : Int)).toNat 0 = x := by rw [Int.toNat_natCast, List.getD_eq_getElem?_getD, hx]; rfl
  have h2 := (List.getElem?_eq_some_iff.1 hx).1
  unfold alPaused
  rw [Bool.eq_iff_iff]
  simp only [decide_eq_true_eq]
  rw [h1]
  omega
def alHeldK (l : List Int) (lim : Int) (k : Nat) : List Int := ((List.range k).filter (fun i : Nat => alPaused l lim (i : Int))).map (fun i : Nat => (i : Int))
def alHeld (l : List Int) (lim : Int) : List Int := alHeldK l lim l.length
theorem alHeldK_succ (l : List Int) (lim : Int) (k : Nat) : alHeldK l lim (k + 1) = alHeldK l lim k ++ if alPaused l lim (k : Int) = true then [(k : Int)] else [] := by
  unfold alHeldK
  rw [List.range_succ, List.filter_append, List.map_append]
  congr 1
  by_cases h : alPaused l lim (k : Int) = true
  · simp [h]
  · simp [h]
theorem alHeldK_len (l : List Int) (lim : Int) (k : Nat) : (alHeldK l lim k).length ≤ k := by
  unfold alHeldK
  rw [List.length_map]
  exact Nat.le_trans (List.length_filter_le _ _) (by simp)

theorem alHeld_mem (l : List Int) (lim : Int) : ∀ x ∈ alHeld l lim, ∃ q : Nat, x = (q : Int) ∧ q < l.length := by
  intro x hx
  unfold alHeld alHeldK at hx
  obtain ⟨q, hq, rfl⟩ := List.mem_map.1 hx
  exact ⟨q, rfl, List.mem_range.1 (List.mem_filter.1 hq).1⟩
def alSet (l : List Int) (i x : Int) : List Int := if 0 ≤ i then l.set i.toNat x else l
theorem alSet_len (l : List Int) (i x : Int) : (alSet l i x).length = l.length := by unfold alSet; split <;> simp
def alFreeK (l was : List Int) (lim : Int) (k : Nat) : List Int := (was.take k).filter (fun i => !alPaused l lim i)
end Go.Proofs.Ytgbcnlchpolcbaa
