
/- The checks of a rule (gen.Check, tidewaiterref13.Check), walked. No condition. (As in Gen; not to be imported beside it.) -/
import Derived.Test.YthdblloiapadkaaDoorProg
import Derived.Test.YthdblloiapadkaaDoorOwn
namespace Go.Proofs.YthdblloiapadkaaDoor
set_option maxRecDepth 100000
set_option linter.unusedSimpArgs false
open Go.RowKit
set_option linter.unusedVariables false
set_option linter.unusedSimpArgs false

def ruleV (k b p n s : Int) : Value := .agg #[.int .i64 k, .int .i64 b, .int .i64 p, .int .i64 n, .int .i64 s]
def ruleC (k b p n s : Int) : Int :=
  if k = 0 then (if 0 ≤ b then 0 else 7)
  else if k = 1 then (if 0 ≤ s then (if s ≤ 1114111 then 0 else 7) else 7)
  else if k = 2 then (if 0 ≤ p then (if p ≤ 100 then (if 1 ≤ n then (if n ≤ 4096 then 0 else 7) else 7) else 7) else 7)
  else 3
set_option maxHeartbeats 4000000 in
theorem gen_Check (k b p n s : Int) (w : World) :
    Calls Tryd.prog 63 #[ruleV k b p n s] w fun e w' => e = .returned (.int .i64 (ruleC k b p n s)) ∧ Below w.heap.size w w' := by
  unfold ruleC ruleV
  have hb0 := bel_refl w
  by_cases k0 : k = 0
  · subst k0
    rw [if_pos rfl]
    split
    all_goals
      go_enter Tryd.func63, Tryd.ntmps63
      go_wp2
      all_goals first | (exfalso; omega) | skip
      all_goals
        go_ret
        exact ⟨rfl, (by repeat (first | assumption | apply bel_alloc | apply bel_drewN | apply bel_drew | exact bel_refl _))⟩
  rw [if_neg k0]
  by_cases k1 : k = 1
  · subst k1
    rw [if_pos rfl]
    clear k0
    repeat' split
    all_goals
      go_enter Tryd.func63, Tryd.ntmps63
      go_wp2
      all_goals first | (exfalso; omega) | skip
      all_goals
        go_ret
        exact ⟨rfl, (by repeat (first | assumption | apply bel_alloc | apply bel_drewN | apply bel_drew | exact bel_refl _))⟩
  rw [if_neg k1]
  by_cases k2 : k = 2
  · subst k2
    rw [if_pos rfl]
    clear k0 k1
    repeat' split
    all_goals
      go_enter Tryd.func63, Tryd.ntmps63
      go_wp2
      all_goals first | (exfalso; omega) | skip
      all_goals
        go_ret
        exact ⟨rfl, (by repeat (first | assumption | apply bel_alloc | apply bel_drewN | apply bel_drew | exact bel_refl _))⟩
  rw [if_neg k2]
  have e0 : (k == 0) = false := by rw [beq_eq_false_iff_ne]; exact k0
  have e1 : (k == 1) = false := by rw [beq_eq_false_iff_ne]; exact k1
  have e2 : (k == 2) = false := by rw [beq_eq_false_iff_ne]; exact k2
  clear k0 k1 k2
  go_enter Tryd.func63, Tryd.ntmps63
  go_wp2
  go_ret
  exact ⟨rfl, (by repeat (first | assumption | apply bel_alloc | apply bel_drewN | apply bel_drew | exact bel_refl _))⟩
set_option maxHeartbeats 4000000 in
theorem ref13_Check (k b p n s : Int) (w : World) :
    Calls Tryd.prog 64 #[ruleV k b p n s] w fun e w' => e = .returned (.int .i64 (ruleC k b p n s)) ∧ Below w.heap.size w w' := by
  unfold ruleC ruleV
  have hb0 := bel_refl w
  by_cases k0 : k = 0
  · subst k0
    rw [if_pos rfl]
    split
    all_goals
      go_enter Tryd.func64, Tryd.ntmps64
      go_wp2
      all_goals first | (exfalso; omega) | skip
      all_goals
        go_ret
        exact ⟨rfl, (by repeat (first | assumption | apply bel_alloc | apply bel_drewN | apply bel_drew | exact bel_refl _))⟩
  rw [if_neg k0]
  by_cases k1 : k = 1
  · subst k1
    rw [if_pos rfl]
    clear k0
    repeat' split
    all_goals
      go_enter Tryd.func64, Tryd.ntmps64
      go_wp2
      all_goals first | (exfalso; omega) | skip
      all_goals
        go_ret
        exact ⟨rfl, (by repeat (first | assumption | apply bel_alloc | apply bel_drewN | apply bel_drew | exact bel_refl _))⟩
  rw [if_neg k1]
  by_cases k2 : k = 2
  · subst k2
    rw [if_pos rfl]
    clear k0 k1
    repeat' split
    all_goals
      go_enter Tryd.func64, Tryd.ntmps64
      go_wp2
      all_goals first | (exfalso; omega) | skip
      all_goals
        go_ret
        exact ⟨rfl, (by repeat (first | assumption | apply bel_alloc | apply bel_drewN | apply bel_drew | exact bel_refl _))⟩
  rw [if_neg k2]
  have e0 : (k == 0) = false := by rw [beq_eq_false_iff_ne]; exact k0
  have e1 : (k == 1) = false := by rw [beq_eq_false_iff_ne]; exact k1
  have e2 : (k == 2) = false := by rw [beq_eq_false_iff_ne]; exact k2
  clear k0 k1 k2
  go_enter Tryd.func64, Tryd.ntmps64
  go_wp2
  go_ret
  exact ⟨rfl, (by repeat (first | assumption | apply bel_alloc | apply bel_drewN | apply bel_drew | exact bel_refl _))⟩

end Go.Proofs.YthdblloiapadkaaDoor
