
/- What the clamp's functions do to its two cells. No condition. -/
import Derived.Test.YtgbcnlchpolcbaaSat
import Derived.Test.YtgbcnlchpolcbaaOwn
namespace Go.Proofs.Ytgbcnlchpolcbaa
set_option maxRecDepth 100000
set_option linter.unusedSimpArgs false
open Go.RowKit
set_option linter.unusedVariables false

def NEV : Int := -9223372036854775808
theorem I64.nev : I64 NEV := by unfold I64 NEV; omega
def clNow (a : Int) (s : Bool) : Int := if s then a else NEV
def clA (a : Int) (s : Bool) (n : Int) : Int := if clNow a s < n then n else a
def clS (a : Int) (s : Bool) (n : Int) : Bool := if clNow a s < n then true else s
theorem clNow_raise (a : Int) (s : Bool) (n : Int) : clNow (clA a s n) (clS a s n) = max (clNow a s) n := by
  unfold clA clS
  split
  · rw [show clNow n true = n from rfl]; omega
  · omega
theorem I64.clNow {a : Int} {s : Bool} (h : I64 a) : I64 (clNow a s) := by unfold Go.Proofs.Ytgbcnlchpolcbaa.clNow; split; exact h; exact I64.nev
theorem I64.clA {a : Int} {s : Bool} {n : Int} (h : I64 a) (hn : I64 n) : I64 (clA a s n) := by unfold Go.Proofs.Ytgbcnlchpolcbaa.clA; split; exact hn; exact h

def clW (w : World) (g o : Nat) (a : Int) (s : Bool) (n : Int) : World := (w.setCell ⟨g, o, none⟩ (.int .i64 (clA a s n))).setCell ⟨g, o + 1, none⟩ (.bool (clS a s n))
/-! ### the block of a clamp alone -/
theorem clW_mod (w : World) (g o : Nat) (a : Int) (s : Bool) (n : Int) : Mod (fun k => k = g) w (clW w g o a s n) :=
  ((Mod.refl (fun k => k = g) w).setCell (p := ⟨g, o, none⟩) (fun _ => rfl) _).setCell (p := ⟨g, o + 1, none⟩) (fun _ => rfl) _

/-- One number more: how far it rose, and by which numbers. -/
def clStep (s : Int × List Int) (x : Int) : Int × List Int := if s.1 < x then (x, s.2 ++ [x]) else s
def clAll (xs : List Int) : List Int := (xs.foldl clStep (NEV, [])).2
theorem clStep_pos {s : Int × List Int} {x : Int} (h : s.1 < x) : clStep s x = (x, s.2 ++ [x]) := by unfold clStep; rw [if_pos h]
theorem clStep_neg {s : Int × List Int} {x : Int} (h : ¬ s.1 < x) : clStep s x = s := by unfold clStep; rw [if_neg h]
theorem foldl_snoc {α β : Type} (f : β → α → β) (xs : List α) (x : α) (s : β) : (xs ++ [x]).foldl f s = f (xs.foldl f s) x := by simp
theorem clStep_len (xs : List Int) : ∀ s, (xs.foldl clStep s).2.length ≤ s.2.length + xs.length := by
  induction xs with
  | nil => intro s; simp
  | cons x xs ih =>
    intro s
    have := ih (clStep s x)
    have h2 : (clStep s x).2.length ≤ s.2.length + 1 := by unfold clStep; split <;> simp
    simp only [List.foldl_cons, List.length_cons]
    omega

end Go.Proofs.Ytgbcnlchpolcbaa
