
/- What the clock's functions do to its one cell. No condition. -/
import Derived.Test.YtockkjhciojgbaaGreatDoorPackA
namespace Go.Proofs.YtockkjhciojgbaaGreatDoor
set_option maxRecDepth 100000
set_option linter.unusedSimpArgs false
open Go.RowKit
set_option linter.unusedVariables false

def clockGo (now by_ : Int) : Int := if by_ < 0 then now else satAdd now by_
theorem I64.clockGo {now by_ : Int} (h : I64 now) : I64 (clockGo now by_) := by unfold Go.Proofs.YtockkjhciojgbaaGreatDoor.clockGo; split; exact h; exact I64.satAdd _ _

theorem clock_Go (g o : Nat) (now by_ : Int) (w : World) (hc : w.cell? ⟨g, o, none⟩ = some (.int .i64 now)) (hf : w.frozen? ⟨g, o, none⟩ = false) (hn : I64 now) (hb : I64 by_) :
    Calls Tryz.prog 97 #[.pointer (some ⟨g, o, none⟩), .int .i64 by_] w fun e w' => e = .returned (.bool (decide (0 ≤ by_))) ∧ w.setCell ⟨g, o, none⟩ (.int .i64 (clockGo now by_)) = w' := by
  by_cases h : by_ < 0
  · have hd : decide (0 ≤ by_) = false := by rw [decide_eq_false_iff_not]; omega
    have hs : w.setCell ⟨g, o, none⟩ (.int .i64 (clockGo now by_)) = w := by unfold clockGo; rw [if_pos h]; exact setCell_self hc
    have HS := hid' hs
    have HD := hid' hd
    clear hs hd
    go_enter Tryz.func97, Tryz.ntmps97
    go_wp2
    go_ret
    exact ⟨ret_bool HD.out.symm, HS.out⟩
  · have hd : decide (0 ≤ by_) = true := by rw [decide_eq_true_eq]; omega
    have hs : clockGo now by_ = satAdd now by_ := by unfold clockGo; rw [if_neg h]
    have HS := hid' hs
    have HD := hid' hd
    clear hs hd
    go_enter Tryz.func97, Tryz.ntmps97
    go_wp2_with fail
    refine (sat_Add now by_ _ hn hb).mono ?_
    rintro e w' ⟨rfl, rfl⟩
    go_wp2
    go_ret
    exact ⟨ret_bool HD.out.symm, by rw [HS.out]⟩
theorem clock_Now (g o : Nat) (now : Int) (w : World) (hc : w.cell? ⟨g, o, none⟩ = some (.int .i64 now)) :
    Calls Tryz.prog 58 #[.pointer (some ⟨g, o, none⟩)] w fun e w' => e = .returned (.int .i64 now) ∧ w = w' := by
  go_enter Tryz.func58, Tryz.ntmps58
  go_wp2
  go_ret
  exact ⟨rfl, rfl⟩
theorem clock_Until (g o : Nat) (now by_ : Int) (w : World) (hc : w.cell? ⟨g, o, none⟩ = some (.int .i64 now)) (hn : I64 now) (hb : I64 by_) :
    Calls Tryz.prog 88 #[.pointer (some ⟨g, o, none⟩), .int .i64 by_] w fun e w' => e = .returned (.int .i64 (satAdd now (max by_ 0))) ∧ w = w' := by
  have hm : I64 (max by_ 0) := by unfold I64 at *; omega
  go_enter Tryz.func88, Tryz.ntmps88
  go_wp2_with fail
  refine (sat_Add now (max by_ 0) _ hn hm).mono ?_
  rintro e w' ⟨rfl, rfl⟩
  go_wp2
  go_ret
  exact ⟨rfl, rfl⟩
theorem clock_Past (g o : Nat) (now at_ : Int) (w : World) (hc : w.cell? ⟨g, o, none⟩ = some (.int .i64 now)) :
    Calls Tryz.prog 136 #[.pointer (some ⟨g, o, none⟩), .int .i64 at_] w fun e w' => e = .returned (.bool (decide (at_ ≤ now))) ∧ w = w' := by
  go_enter Tryz.func136, Tryz.ntmps136
  go_wp2
  go_ret
  exact ⟨rfl, rfl⟩
end Go.Proofs.YtockkjhciojgbaaGreatDoor
