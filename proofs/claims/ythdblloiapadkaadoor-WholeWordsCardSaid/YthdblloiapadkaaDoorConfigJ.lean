
/- A configuration's text, line by line: the plain law. No program. -/
import Derived.Test.YthdblloiapadkaaDoorConfigI
namespace Go.Proofs.YthdblloiapadkaaDoor
set_option maxRecDepth 100000
set_option linter.unusedSimpArgs false
open Go.RowKit
set_option linter.unusedVariables false
set_option linter.unusedSimpArgs false

def lnOf (r : Rl) : List UInt8 := (rlL r).dropLast
theorem lnOf_back {r : Rl} (h : rlI r) (ho : rlO r = true) : rlL r = lnOf r ++ [10] ∧ (10 : UInt8) ∉ lnOf r ∧ ruleP (lnOf r) = some r := by
  obtain ⟨l, h1, h2, h3⟩ := ruleP_back h ho
  have : lnOf r = l := by unfold lnOf; rw [h1, List.dropLast_concat]
  rw [this]; exact ⟨h1, h2, h3⟩
def hdOf (t d : Int) : List UInt8 := wSource ++ wordsL [t, d]
def lnsOf (l : List Rl) (t d : Int) : List (List UInt8) := hdOf t d :: l.map lnOf
theorem cfgL_lns {l : List Rl} {t d : Int} (h : ∀ r ∈ l, rlI r) (ho : ∀ r ∈ l, rlO r = true) : cfgL l t d = (lnsOf l t d).flatMap fun x => x ++ [10] := by
  unfold cfgL lnsOf
  rw [List.flatMap_cons]
  congr 1
  rw [List.flatMap_map]
  induction l with
  | nil => rfl
  | cons r l ih =>
    rw [List.flatMap_cons, List.flatMap_cons, (lnOf_back (h r (List.mem_cons_self ..)) (ho r (List.mem_cons_self ..))).1, ih (fun x hx => h x (List.mem_cons_of_mem _ hx)) (fun x hx => ho x (List.mem_cons_of_mem _ hx))]
theorem lnsOf_no {l : List Rl} {t d : Int} (h : ∀ r ∈ l, rlI r) (ho : ∀ r ∈ l, rlO r = true) : ∀ x ∈ lnsOf l t d, (10 : UInt8) ∉ x := by
  intro x hx
  rcases List.mem_cons.1 hx with rfl | hx
  · exact words_no10 (by decide) _
  · obtain ⟨r, hr, rfl⟩ := List.mem_map.1 hx
    exact (lnOf_back (h r hr) (ho r hr)).2.1
theorem spl_lns : ∀ {ls : List (List UInt8)}, (∀ x ∈ ls, (10 : UInt8) ∉ x) → spl 10 (ls.flatMap fun x => x ++ [10]) = ls ++ [[]]
  | [], _ => rfl
  | x :: ls, h => by
    have ih := spl_lns (ls := ls) (fun y hy => h y (List.mem_cons_of_mem _ hy))
    rw [List.flatMap_cons, List.append_assoc]
    have hc := spl_cut (ls.flatMap fun x => x ++ [10]) (h x (List.mem_cons_self ..))
    rw [ih] at hc
    exact hc
theorem spl_cfg {l : List Rl} {t d : Int} (h : ∀ r ∈ l, rlI r) (ho : ∀ r ∈ l, rlO r = true) : spl 10 (cfgL l t d) = lnsOf l t d ++ [[]] := by
  rw [cfgL_lns h ho, spl_lns (lnsOf_no h ho)]
/-- texts that are such lines are read as the configuration -/
theorem lns_read {l : List Rl} {t d : Int} (h : ∀ r ∈ l, rlI r) (ho : ∀ r ∈ l, rlO r = true) (ht : I64 t) (hd : I64 d) {xs : List ByteArray} (hx : xs.map bL = lnsOf l t d) :
    ∃ x ys, xs = x :: ys ∧ headP (bL x) = some (t, d) ∧ (∀ y ∈ ys, rokP y = true) ∧ ys.map rvP = l ∧ ys.length = l.length := by
  cases xs with
  | nil => cases hx
  | cons x ys =>
    have hx' : bL x :: ys.map bL = hdOf t d :: l.map lnOf := hx
    injection hx' with h1 h2
    refine ⟨x, ys, rfl, by rw [h1]; exact headP_back ht hd, fun y hy => ?_, ?_, by have := congrArg List.length h2; simpa using this⟩
    · have : bL y ∈ l.map lnOf := by rw [← h2]; exact List.mem_map_of_mem hy
      obtain ⟨r, hr, e⟩ := List.mem_map.1 this
      unfold rokP
      rw [← e, (lnOf_back (h r hr) (ho r hr)).2.2]; rfl
    · have : ys.map rvP = (ys.map bL).map fun z => (ruleP z).getD (0, 0, 0, 0, 0) := by rw [List.map_map]; rfl
      rw [this, h2, List.map_map]
      conv => rhs; rw [← List.map_id l]
      apply List.map_congr_left
      intro r hr
      show (ruleP (lnOf r)).getD _ = r
      rw [(lnOf_back (h r hr) (ho r hr)).2.2]; rfl
theorem all_take {l : List Rl} {k : Nat} {r : Rl} (h : l[k]? = some r) : (l.take (k + 1)).all rlO = ((l.take k).all rlO && rlO r) := by
  rw [List.take_add_one, h, List.all_append]; simp
end Go.Proofs.YthdblloiapadkaaDoor
