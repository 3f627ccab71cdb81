
/- How far time has come never goes back, and goes no less far where fewer of a hundred count, walked. No condition. -/
import Derived.Test.YtckndjgdfhbgcaaDoorLawPercent
import Derived.Test.YtckndjgdfhbgcaaDoorLawHistC
namespace Go.Proofs.YtckndjgdfhbgcaaDoor
set_option maxRecDepth 100000
set_option linter.unusedSimpArgs false
open Go.RowKit
set_option linter.unusedVariables false

theorem pLag_mono (q : List Int) {p p' : Int} (h0 : 0 ≤ p) (h : p ≤ p') (h1 : p' ≤ 100) (hq : ∀ x ∈ q, I64 x) : pLag q p ≤ pLag q p' := by
  obtain ⟨s1, s2⟩ := lst_spec (percP q p) q
  obtain ⟨t1, t2⟩ := lst_spec (percP q p') q
  unfold pLag
  cases hb : (lstOf (percP q p') q).2
  · -- nothing stands in the row
    have hq0 : q = [] := by
      cases q with
      | nil => rfl
      | cons a r =>
        exfalso
        obtain ⟨m, hm, hmax⟩ : ∃ m ∈ a :: r, ∀ y ∈ a :: r, y ≤ m := by
          have := lst_spec (fun _ => true) ((a :: r).map (fun x => -x))
          have hb2 : (lstOf (fun _ => true) ((a :: r).map (fun x => -x))).2 = true := by
            cases hc : (lstOf (fun _ => true) ((a :: r).map (fun x => -x))).2
            · have := (this.1 hc).2 (-a) (List.mem_map.2 ⟨a, List.mem_cons_self, rfl⟩); cases this
            · rfl
          obtain ⟨u1, _, u3⟩ := this.2 hb2
          obtain ⟨z, hz, e⟩ := List.mem_map.1 u1
          refine ⟨z, hz, fun y hy => ?_⟩
          have := u3 (-y) (List.mem_map.2 ⟨y, hy, rfl⟩) rfl
          omega
        have h2 := (t1 hb).2 m hm
        have h3 : belowL (a :: r) m = (a :: r).length := belowL_all hmax
        unfold percP at h2
        rw [h3] at h2
        have h4 : p' * ((a :: r).length : Int) ≤ 100 * ((a :: r).length : Int) := Int.mul_le_mul_of_nonneg_right h1 (by omega)
        have := of_decide_eq_false h2
        omega
    subst hq0
    exact Int.le_refl _
  · obtain ⟨u1, u2, u3⟩ := t2 hb
    have hP : percP q p (lstOf (percP q p') q).1 = true := by
      have h2 := of_decide_eq_true (show decide (p' * (q.length : Int) ≤ (belowL q (lstOf (percP q p') q).1 : Int) * 100) = true from u2)
      have h4 : p * (q.length : Int) ≤ p' * (q.length : Int) := Int.mul_le_mul_of_nonneg_right h (by omega)
      exact decide_eq_true (Int.le_trans h4 h2)
    cases hc : (lstOf (percP q p) q).2
    · have := (s1 hc).2 _ u1; rw [hP] at this; cases this
    · exact (s2 hc).2.2 _ u1 hP
theorem bAfter_anti (m : Int) {a b : Int} (h : a ≤ b) : bAfter m b ≤ bAfter m a := by unfold bAfter satSub; repeat' split <;> omega
theorem pN_wide (n : Nat) (p : Int) (h0 : 0 ≤ p) (h1 : p ≤ 100) (l : List Int) : pN l 100 n ≤ pN l p n := by
  induction l using list_rev_ind with
  | h0 => exact Int.le_refl _
  | h1 l x ih =>
    rw [pN_snoc, pN_snoc]
    have h2 := bAfter_anti (max (mostOf l) x) (pLag_mono (winL n (l ++ [x])) h0 h1 (by omega) (winL_I64 n _))
    omega
theorem pN_le (l : List Int) (x p : Int) (n : Nat) : pN l p n ≤ pN (l ++ [x]) p n := by rw [pN_snoc]; omega
/-- Two such ways side by side. -/
def PG2 (w : World) (B g rg rb g' rg' rb' : Nat) (v v' : Value) (p p' : Int) (n : Nat) (l l' : List Int) : Prop :=
  PG w B g rg rb v p n l ∧ PG w B g' rg' rb' v' p' n l' ∧ ∀ k, PF g rg rb v k → ¬ PF g' rg' rb' v' k
section
variable {w : World} {B g rg rb g' rg' rb' : Nat} {v v' : Value} {p p' : Int} {n : Nat} {l l' : List Int}
theorem PG2.swap (h : PG2 w B g rg rb g' rg' rb' v v' p p' n l l') : PG2 w B g' rg' rb' g rg rb v' v p' p n l' l := ⟨h.2.1, h.1, fun k h1 h2 => h.2.2 k h2 h1⟩
theorem PG2.below {w' : World} (h : PG2 w B g rg rb g' rg' rb' v v' p p' n l l') (hb : Below w.heap.size w w') : PG2 w' B g rg rb g' rg' rb' v v' p p' n l l' := ⟨h.1.below hb, h.2.1.below hb, h.2.2⟩
theorem PG2.seen (h : PG2 w B g rg rb g' rg' rb' v v' p p' n l l') (kind x : Int) (txt : ByteArray) (hx : I64 x) (hl : l.length < 9000) :
    Calls Tryd.prog 16 #[.pointer (some ⟨g, 0, none⟩), .agg #[.int .i64 kind, .int .i64 x, .string txt]] w fun e w' =>
      e = .returned (.tuple #[]) ∧ ∃ u, PG2 w' B g rg rb g' rg' rb' u v' p p' n (l ++ [x]) l' ∧ Mod (PF g rg rb v) w w' := by
  obtain ⟨h1, h2, h3⟩ := h
  refine (h1.seen kind x txt hx hl).mono ?_
  rintro e w' ⟨rfl, u, hG, hM, hu⟩
  have hb := h2.bound
  refine ⟨rfl, u, ⟨hG, h2.mod hM (fun k hk hk2 => h3 k hk2 hk), fun k hk hk2 => ?_⟩, hM⟩
  rcases hk with e | e | e | e
  · exact h3 k (.inl e) hk2
  · exact h3 k (.inr (.inl e)) hk2
  · exact h3 k (.inr (.inr (.inl e))) hk2
  · rcases hu with e2 | ⟨b, e2, hle⟩
    · exact h3 k (.inr (.inr (.inr (by rw [← e2]; exact e)))) hk2
    · rw [e] at e2; injection e2 with e2
      have := (hb.1 k hk2).2; omega
end
end Go.Proofs.YtckndjgdfhbgcaaDoor
