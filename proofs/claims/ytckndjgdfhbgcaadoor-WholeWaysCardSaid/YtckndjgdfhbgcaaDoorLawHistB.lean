
/- Whatever is added to numbers and removed from them, walked. No condition. -/
import Derived.Test.YtckndjgdfhbgcaaDoorLawHist
namespace Go.Proofs.YtckndjgdfhbgcaaDoor
set_option maxRecDepth 100000
set_option linter.unusedSimpArgs false
open Go.RowKit
set_option linter.unusedVariables false

def RAct08 (w : World) (cs : List Value) (x : Bool × Int) : Prop := cs.length = 2 ∧ RBool w ((cs.drop 0).take 1) x.1 ∧ RInt .i64 w ((cs.drop 1).take 1) x.2
theorem RAct08.cells {w : World} {cs : List Value} {x : Bool × Int} (h : RAct08 w cs x) : cs = [.bool x.1, .int .i64 x.2] ∧ I64 x.2 := by
  obtain ⟨hl, h1, ⟨h2, w2⟩⟩ := h
  match cs, hl with
  | [a, b], _ =>
    simp [RBool] at h1 h2
    subst h1 h2
    exact ⟨rfl, I64.of_wf w2⟩
def fAct08 (x : Bool × Int) : List Value := [.bool x.1, .int .i64 x.2]
theorem rk_least {bs : List (Int × Nat)} {l : List Int} (h : HistOf bs l) (k : Int) (hk : 1 ≤ k) : rkR bs k = lstOf (leastP l k) l := by
  unfold rkR
  rw [if_neg (by omega)]
  refine rank_least h (by omega) _ (fun x _ => ?_)
  unfold leastP
  exact decide_eq_decide.2 (by omega)
theorem pc_least {bs : List (Int × Nat)} {l : List Int} (h : HistOf bs l) (p : Int) (hp0 : 0 ≤ p) : pcR bs p (totB bs : Nat) = lstOf (percP l p) l := by
  unfold pcR rkR
  rw [if_neg (by omega), h.tot]
  have hq : 0 ≤ p * (l.length : Int) := Int.mul_nonneg hp0 (by omega)
  refine rank_least h (by omega) _ (fun x hx => ?_)
  unfold percP
  have h1 : 1 ≤ belowL l x := List.countP_pos_iff.2 ⟨x, hx, by simp⟩
  exact decide_eq_decide.2 (by omega)
theorem lst_none {l : List Int} {k : Int} (h : (l.length : Int) < k) : lstOf (leastP l k) l = (0, false) := by
  obtain ⟨s1, s2⟩ := lst_spec (leastP l k) l
  cases hb : (lstOf (leastP l k) l).2
  · exact (s1 hb).1
  · exfalso
    have := (s2 hb).2.1
    have h2 := belowL_le l (lstOf (leastP l k) l).1
    rw [show leastP l k (lstOf (leastP l k) l).1 = decide (k ≤ (belowL l (lstOf (leastP l k) l).1 : Int)) from rfl, decide_eq_true_eq] at this
    omega
theorem lst_is {bs : List (Int × Nat)} {l : List Int} (h : HistOf bs l) (k : Int) : (rkR bs k).2 = decide (1 ≤ k ∧ k ≤ (l.length : Int)) := by
  by_cases h1 : k < 1
  · unfold rkR; rw [if_pos h1, decide_eq_false (by omega)]
  · unfold rkR
    rw [if_neg h1]
    cases hr : rankB bs k.toNat with
    | none =>
      have := rank_none hr (by omega)
      rw [h.tot] at this
      rw [decide_eq_false (by omega)]; rfl
    | some m =>
      obtain ⟨_, h2, _⟩ := rank_some h.1 (by omega) hr
      rw [h.below] at h2
      have h3 := belowL_le l m
      rw [decide_eq_true (by omega)]; rfl
end Go.Proofs.YtckndjgdfhbgcaaDoor
