
/- Configurations in words, both ways (config.Print, tidewaiterref19.Print), and sameness (Same), walked. No condition but the tables and variables of Go's own library. -/
import Derived.Test.YtioaijjmialdoaaGreatDoorConfigPureB
import Derived.Test.YtioaijjmialdoaaGreatDoorPackQ
namespace Go.Proofs.YtioaijjmialdoaaGreatDoor
set_option maxRecDepth 100000
set_option linter.unusedSimpArgs false
open Go.RowKit
set_option linter.unusedVariables false
set_option linter.unusedSimpArgs false

def cfgL (l : List Rl) (t d : Int) : List UInt8 := lnL wSource [t, d] ++ l.flatMap rlL
theorem cfgL_snoc (l : List Rl) (r : Rl) (t d : Int) : cfgL (l ++ [r]) t d = cfgL l t d ++ rlL r := by unfold cfgL; simp
theorem rlL_len {r : Rl} (h : rlI r) : (rlL r).length ≤ 60 := by
  obtain ⟨k, b, p, n, s⟩ := r
  obtain ⟨hk, hb, hp, hn, hs⟩ := h
  simp only at hk hb hp hn hs
  have h1 := itoa_len hb
  have h2 := itoa_len hp
  have h3 := itoa_len hn
  have h4 := itoa_len hs
  unfold rlL ruleL
  simp only
  split
  · show (lnL wBounded [b]).length ≤ 60
    unfold lnL wordsL; simp; show 7 + _ ≤ 60; omega
  · split
    · unfold lnL wordsL; simp; show 6 + _ ≤ 60; omega
    · split
      · unfold lnL wordsL; simp; show 7 + _ ≤ 60; omega
      · simp
theorem cfgL_len {l : List Rl} {t d : Int} (h : ∀ r ∈ l, rlI r) (ht : I64 t) (hd : I64 d) : (cfgL l t d).length ≤ 60 + 60 * l.length := by
  have h1 := itoa_len ht
  have h2 := itoa_len hd
  unfold cfgL
  have h3 : (lnL wSource [t, d]).length ≤ 60 := by unfold lnL wordsL; simp; show 6 + _ ≤ 60; omega
  have h4 : (l.flatMap rlL).length ≤ 60 * l.length := by
    induction l with
    | nil => simp
    | cons r l ih =>
      have := rlL_len (h r (List.mem_cons_self ..))
      have := ih (fun x hx => h x (List.mem_cons_of_mem _ hx))
      simp only [List.flatMap_cons, List.length_append, List.length_cons]; omega
  rw [List.length_append]; omega
theorem cfgL_take {l : List Rl} {k : Nat} {r : Rl} (h : l[k]? = some r) (t d : Int) : cfgL (l.take (k + 1)) t d = cfgL (l.take k) t d ++ rlL r := by
  rw [List.take_add_one, h]; exact cfgL_snoc _ r t d
end Go.Proofs.YtioaijjmialdoaaGreatDoor
