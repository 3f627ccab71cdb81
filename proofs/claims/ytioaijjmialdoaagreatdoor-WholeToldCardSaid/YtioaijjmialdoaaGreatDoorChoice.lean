
/- Choices (package choice), walked. No condition but the tables and variables of Go's own library. -/
import Derived.Test.YtioaijjmialdoaaGreatDoorNumsW
import Derived.Test.YtioaijjmialdoaaGreatDoorChoicePure
import Derived.Laws.ResultCell
namespace Go.Proofs.YtioaijjmialdoaaGreatDoor
set_option maxRecDepth 100000
set_option linter.unusedSimpArgs false
open Go.RowKit
set_option linter.unusedVariables false
set_option linter.unusedSimpArgs false

theorem results_cellC {fn : Func} {p : Tmp} {ty : TypeId} (h : fn.results = #[.cell p ty]) (tmps : Array Value) (P : Program) (w : World) :
    (results fn tmps).run P w = ((asAddr (tmps.getD p undef)).run P w).andThen fun a w₁ => ((loadVar ty a).run P w₁).andThen fun v w₂ => .ok v w₂ := by
  simp only [results, h]
  simp [Sem.run_bind, Result.andThen]
  split
  · split <;> assumption
  · rfl
/-- the length of the longest text that is looked for at once -/
def MaxT (w : World) : Prop := ∃ m, w.cell? ⟨0, 0, none⟩ = some (.int .i64 m)
theorem MaxT.below {w w' : World} (h : MaxT w) (hb : Below w.heap.size w w') : MaxT w' := by
  obtain ⟨m, hm⟩ := h
  exact ⟨m, (hb.cell (World.block_lt_of_cell? w _ hm)).trans hm⟩
theorem tab_max {w : World} (h : w.ShapedOpen Tryz.prog) : MaxT w := Tryz.laysM145.s1_3 w h
def chV (t : Bool) (n : Int) : Value := .agg #[.bool t, .int .i64 n]
theorem cutW (c : UInt8) (s sep : ByteArray) (w : World) (hsep : sep = ⟨#[c]⟩) (hs : s.size ≤ 1000000) (hM : MaxT w) :
    Calls Tryz.prog 23 #[.string s, .string sep] w fun e w' => e = .returned (.tuple #[.string (strOf (cutS c (bL s)).1), .string (strOf (cutS c (bL s)).2.1), .bool (cutS c (bL s)).2.2]) ∧ Below w.heap.size w w' := by
  obtain ⟨m, hm⟩ := hM
  subst hsep
  have h := Tryz.strings_Cut s ⟨#[c]⟩ m w (by omega) hm
  have h2 : Lib.cut s.data.toList (⟨#[c]⟩ : ByteArray).data.toList = cutS c (bL s) := cut_S c (bL s)
  rw [h2] at h
  exact h.mono fun e w' ⟨he, n, hw⟩ => ⟨he, by rw [hw]; exact (show Dr w (w.drewN n) from ⟨n, rfl⟩).below⟩
theorem cutS_le (c : UInt8) : ∀ l : List UInt8, (cutS c l).1.length ≤ l.length ∧ (cutS c l).2.1.length ≤ l.length
  | [] => ⟨Nat.le_refl _, Nat.le_refl _⟩
  | x :: l => by
    have := cutS_le c l
    unfold cutS
    split
    · simp
    · simp only [List.length_cons]; omega
def chO (o : Option (Bool × Int)) : Value := match o with | some x => chV x.1 x.2 | none => chV false 0
end Go.Proofs.YtioaijjmialdoaaGreatDoor
