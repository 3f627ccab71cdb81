
/- The ways as one (gen): the check of a rule, and its reference, walked. No condition. -/
import Derived.Test.YtcgonoepndlofaaBounded
import Derived.Test.YtcgonoepndlofaaPercent
namespace Go.Proofs.Ytcgonoepndlofaa
set_option maxRecDepth 100000
set_option linter.unusedSimpArgs false
open Go.RowKit
set_option linter.unusedVariables false
set_option linter.unusedSimpArgs false

def ruleV (k b p n s : Int) : Value := .agg #[.int .i64 k, .int .i64 b, .int .i64 p, .int .i64 n, .int .i64 s]
def ruleC (k b p n s : Int) : Int :=
  if k = 0 then (if 0 ≤ b then 0 else 7)
  else if k = 1 then (if 0 ≤ s then (if s ≤ 1114111 then 0 else 7) else 7)
  else if k = 2 then (if 0 ≤ p then (if p ≤ 100 then (if 1 ≤ n then (if n ≤ 4096 then 0 else 7) else 7) else 7) else 7)
  else 3
set_option maxHeartbeats 4000000 in
theorem gen_Check (k b p n s : Int) (w : World) :
    Calls Try.prog 31 #[ruleV k b p n s] w fun e w' => e = .returned (.int .i64 (ruleC k b p n s)) ∧ Below w.heap.size w w' := by
  unfold ruleC ruleV
  have hb0 := bel_refl w
  by_cases k0 : k = 0
  · subst k0
    rw [if_pos rfl]
    split
    all_goals
      go_enter Try.func31, Try.ntmps31
      go_wp2
      all_goals first | (exfalso; omega) | skip
      all_goals
        go_ret
        exact ⟨rfl, (by repeat (first | assumption | apply bel_alloc | apply bel_drewN | apply bel_drew | exact bel_refl _))⟩
  rw [if_neg k0]
  by_cases k1 : k = 1
  · subst k1
    rw [if_pos rfl]
    clear k0
    repeat' split
    all_goals
      go_enter Try.func31, Try.ntmps31
      go_wp2
      all_goals first | (exfalso; omega) | skip
      all_goals
        go_ret
        exact ⟨rfl, (by repeat (first | assumption | apply bel_alloc | apply bel_drewN | apply bel_drew | exact bel_refl _))⟩
  rw [if_neg k1]
  by_cases k2 : k = 2
  · subst k2
    rw [if_pos rfl]
    clear k0 k1
    repeat' split
    all_goals
      go_enter Try.func31, Try.ntmps31
      go_wp2
      all_goals first | (exfalso; omega) | skip
      all_goals
        go_ret
        exact ⟨rfl, (by repeat (first | assumption | apply bel_alloc | apply bel_drewN | apply bel_drew | exact bel_refl _))⟩
  rw [if_neg k2]
  have e0 : (k == 0) = false := by rw [beq_eq_false_iff_ne]; exact k0
  have e1 : (k == 1) = false := by rw [beq_eq_false_iff_ne]; exact k1
  have e2 : (k == 2) = false := by rw [beq_eq_false_iff_ne]; exact k2
  clear k0 k1 k2
  go_enter Try.func31, Try.ntmps31
  go_wp2
  go_ret
  exact ⟨rfl, (by repeat (first | assumption | apply bel_alloc | apply bel_drewN | apply bel_drew | exact bel_refl _))⟩
set_option maxHeartbeats 4000000 in
theorem ref13_Check (k b p n s : Int) (w : World) :
    Calls Try.prog 30 #[ruleV k b p n s] w fun e w' => e = .returned (.int .i64 (ruleC k b p n s)) ∧ Below w.heap.size w w' := by
  unfold ruleC ruleV
  have hb0 := bel_refl w
  by_cases k0 : k = 0
  · subst k0
    rw [if_pos rfl]
    split
    all_goals
      go_enter Try.func30, Try.ntmps30
      go_wp2
      all_goals first | (exfalso; omega) | skip
      all_goals
        go_ret
        exact ⟨rfl, (by repeat (first | assumption | apply bel_alloc | apply bel_drewN | apply bel_drew | exact bel_refl _))⟩
  rw [if_neg k0]
  by_cases k1 : k = 1
  · subst k1
    rw [if_pos rfl]
    clear k0
    repeat' split
    all_goals
      go_enter Try.func30, Try.ntmps30
      go_wp2
      all_goals first | (exfalso; omega) | skip
      all_goals
        go_ret
        exact ⟨rfl, (by repeat (first | assumption | apply bel_alloc | apply bel_drewN | apply bel_drew | exact bel_refl _))⟩
  rw [if_neg k1]
  by_cases k2 : k = 2
  · subst k2
    rw [if_pos rfl]
    clear k0 k1
    repeat' split
    all_goals
      go_enter Try.func30, Try.ntmps30
      go_wp2
      all_goals first | (exfalso; omega) | skip
      all_goals
        go_ret
        exact ⟨rfl, (by repeat (first | assumption | apply bel_alloc | apply bel_drewN | apply bel_drew | exact bel_refl _))⟩
  rw [if_neg k2]
  have e0 : (k == 0) = false := by rw [beq_eq_false_iff_ne]; exact k0
  have e1 : (k == 1) = false := by rw [beq_eq_false_iff_ne]; exact k1
  have e2 : (k == 2) = false := by rw [beq_eq_false_iff_ne]; exact k2
  clear k0 k1 k2
  go_enter Try.func30, Try.ntmps30
  go_wp2
  go_ret
  exact ⟨rfl, (by repeat (first | assumption | apply bel_alloc | apply bel_drewN | apply bel_drew | exact bel_refl _))⟩

set_option maxHeartbeats 4000000 in
theorem punct_New (s : Int) (w : World) :
    Calls Try.prog 62 #[.int .i64 s] w fun e w' => e = .returned (.pointer (some ⟨w.heap.size, 0, none⟩)) ∧ Blk w' w.heap.size 123 #[.int .i64 s, .int .i64 0, .bool false] ∧ Below w.heap.size w w' := by
  go_enter Try.func62, Try.ntmps62
  go_wp2
  go_ret
  exact ⟨rfl, Blk.new_ _ _ _, bel_alloc (bel_refl _) _⟩
theorem punct_Now (g : Nat) (s : Int) (w : World) (h : Blk w g 123 #[.int .i64 s, .int .i64 0, .bool false]) :
    Calls Try.prog 121 #[.pointer (some ⟨g, 0, none⟩)] w fun e w' => e = .returned (.int .i64 NEV) ∧ w = w' := by
  go_enter Try.func121, Try.ntmps121
  go_wp2_with fail
  refine (clamp_Now g 1 0 false _ (by simpa using h.cell 1) (by simpa using h.cell 2)).mono ?_
  rintro e w' ⟨rfl, rfl⟩
  go_wp2
  go_ret
  exact ⟨rfl, rfl⟩
end Go.Proofs.Ytcgonoepndlofaa
