
/- What the clamp's functions do to its two cells. No condition. -/
import Derived.Test.YtockkjhciojgbaaGreatDoorPackA
namespace Go.Proofs.YtockkjhciojgbaaGreatDoor
set_option maxRecDepth 100000
set_option linter.unusedSimpArgs false
open Go.RowKit
set_option linter.unusedVariables false

def NEV : Int := -9223372036854775808
theorem I64.nev : I64 NEV := by unfold I64 NEV; omega
def clNow (a : Int) (s : Bool) : Int := if s then a else NEV
def clA (a : Int) (s : Bool) (n : Int) : Int := if clNow a s < n then n else a
def clS (a : Int) (s : Bool) (n : Int) : Bool := if clNow a s < n then true else s
theorem clNow_raise (a : Int) (s : Bool) (n : Int) : clNow (clA a s n) (clS a s n) = max (clNow a s) n := by
  unfold clA clS
  split
  · rw [show clNow n true = n from rfl]; omega
  · omega
theorem I64.clNow {a : Int} {s : Bool} (h : I64 a) : I64 (clNow a s) := by unfold Go.Proofs.YtockkjhciojgbaaGreatDoor.clNow; split; exact h; exact I64.nev
theorem I64.clA {a : Int} {s : Bool} {n : Int} (h : I64 a) (hn : I64 n) : I64 (clA a s n) := by unfold Go.Proofs.YtockkjhciojgbaaGreatDoor.clA; split; exact hn; exact h

theorem clamp_Now (g o : Nat) (a : Int) (s : Bool) (w : World) (hc : w.cell? ⟨g, o, none⟩ = some (.int .i64 a)) (hs : w.cell? ⟨g, o + 1, none⟩ = some (.bool s)) :
    Calls Tryz.prog 104 #[.pointer (some ⟨g, o, none⟩)] w fun e w' => e = .returned (.int .i64 (clNow a s)) ∧ w = w' := by
  cases s
  · go_enter Tryz.func104, Tryz.ntmps104
    go_wp2
    go_ret
    exact ⟨rfl, rfl⟩
  · go_enter Tryz.func104, Tryz.ntmps104
    go_wp2
    go_ret
    exact ⟨rfl, rfl⟩
def clW (w : World) (g o : Nat) (a : Int) (s : Bool) (n : Int) : World := (w.setCell ⟨g, o, none⟩ (.int .i64 (clA a s n))).setCell ⟨g, o + 1, none⟩ (.bool (clS a s n))
theorem clamp_Raise (g o : Nat) (a : Int) (s : Bool) (n : Int) (w : World) (hc : w.cell? ⟨g, o, none⟩ = some (.int .i64 a)) (hs : w.cell? ⟨g, o + 1, none⟩ = some (.bool s))
    (hf : w.frozen? ⟨g, o, none⟩ = false) (hf' : w.frozen? ⟨g, o + 1, none⟩ = false) :
    Calls Tryz.prog 132 #[.pointer (some ⟨g, o, none⟩), .int .i64 n] w fun e w' => e = .returned (.bool (decide (clNow a s < n))) ∧ clW w g o a s n = w' := by
  by_cases h : clNow a s < n
  · have HD := hid' (show decide (clNow a s < n) = true by rw [decide_eq_true_eq]; exact h)
    have HW := hid' (show clW w g o a s n = (w.setCell ⟨g, o, none⟩ (.int .i64 n)).setCell ⟨g, o + 1, none⟩ (.bool true) by unfold clW clA clS; rw [if_pos h, if_pos h])
    go_enter Tryz.func132, Tryz.ntmps132
    go_wp2_with fail
    refine (clamp_Now g o a s _ hc hs).mono ?_
    rintro e w' ⟨rfl, rfl⟩
    go_wp2
    go_ret
    exact ⟨ret_bool HD.out.symm, HW.out⟩
  · have HD := hid' (show decide (clNow a s < n) = false by rw [decide_eq_false_iff_not]; exact h)
    have HW := hid' (show clW w g o a s n = w by unfold clW clA clS; rw [if_neg h, if_neg h, setCell_self hc, setCell_self hs])
    go_enter Tryz.func132, Tryz.ntmps132
    go_wp2_with fail
    refine (clamp_Now g o a s _ hc hs).mono ?_
    rintro e w' ⟨rfl, rfl⟩
    go_wp2
    go_ret
    exact ⟨ret_bool HD.out.symm, HW.out⟩

/-! ### the block of a clamp alone -/
theorem clW_blk {w : World} {g : Nat} {a : Int} {s : Bool} (n : Int) (h : Blk w g 132 #[.int .i64 a, .bool s]) : Blk (clW w g 0 a s n) g 132 #[.int .i64 (clA a s n), .bool (clS a s n)] := by
  have := (h.set 0 (.int .i64 (clA a s n))).set 1 (.bool (clS a s n))
  unfold clW
  simpa using this
theorem clW_mod (w : World) (g o : Nat) (a : Int) (s : Bool) (n : Int) : Mod (fun k => k = g) w (clW w g o a s n) :=
  ((Mod.refl (fun k => k = g) w).setCell (p := ⟨g, o, none⟩) (fun _ => rfl) _).setCell (p := ⟨g, o + 1, none⟩) (fun _ => rfl) _

theorem clamp_RaiseB (g : Nat) (a : Int) (s : Bool) (n : Int) (w : World) (h : Blk w g 132 #[.int .i64 a, .bool s]) :
    Calls Tryz.prog 132 #[.pointer (some ⟨g, 0, none⟩), .int .i64 n] w fun e w' => e = .returned (.bool (decide (clNow a s < n))) ∧ Blk w' g 132 #[.int .i64 (clA a s n), .bool (clS a s n)] ∧ Mod (fun k => k = g) w w' := by
  refine (clamp_Raise g 0 a s n w (by simpa using h.cell 0) (by simpa using h.cell 1) (h.frozen 0) (h.frozen 1)).mono ?_
  rintro e w' ⟨he, rfl⟩
  exact ⟨he, clW_blk n h, clW_mod _ _ _ _ _ _⟩
/-- A clamp within a greater block. -/
theorem clamp_RaiseI (g o : Nat) (T : TypeId) (cs : Array Value) (a : Int) (s : Bool) (n : Int) (w : World) (h : Blk w g T cs) (h0 : cs[o]? = some (.int .i64 a)) (h1 : cs[o + 1]? = some (.bool s)) :
    Calls Tryz.prog 132 #[.pointer (some ⟨g, o, none⟩), .int .i64 n] w fun e w' => e = .returned (.bool (decide (clNow a s < n))) ∧
      Blk w' g T ((cs.setIfInBounds o (.int .i64 (clA a s n))).setIfInBounds (o + 1) (.bool (clS a s n))) ∧ Mod (fun k => k = g) w w' := by
  refine (clamp_Raise g o a s n w (by rw [h.cell, h0]) (by rw [h.cell, h1]) (h.frozen _) (h.frozen _)).mono ?_
  rintro e w' ⟨he, rfl⟩
  exact ⟨he, (h.set o _).set (o + 1) _, clW_mod _ _ _ _ _ _⟩
theorem clamp_NowI (g o : Nat) (T : TypeId) (cs : Array Value) (a : Int) (s : Bool) (w : World) (h : Blk w g T cs) (h0 : cs[o]? = some (.int .i64 a)) (h1 : cs[o + 1]? = some (.bool s)) :
    Calls Tryz.prog 104 #[.pointer (some ⟨g, o, none⟩)] w fun e w' => e = .returned (.int .i64 (clNow a s)) ∧ w = w' :=
  clamp_Now g o a s w (by rw [h.cell, h0]) (by rw [h.cell, h1])
theorem clamp_NowB (g : Nat) (a : Int) (s : Bool) (w : World) (h : Blk w g 132 #[.int .i64 a, .bool s]) :
    Calls Tryz.prog 104 #[.pointer (some ⟨g, 0, none⟩)] w fun e w' => e = .returned (.int .i64 (clNow a s)) ∧ w = w' :=
  clamp_Now g 0 a s w (by simpa using h.cell 0) (by simpa using h.cell 1)

/-- One number more: how far it rose, and by which numbers. -/
def clStep (s : Int × List Int) (x : Int) : Int × List Int := if s.1 < x then (x, s.2 ++ [x]) else s
def clAll (xs : List Int) : List Int := (xs.foldl clStep (NEV, [])).2
theorem clStep_pos {s : Int × List Int} {x : Int} (h : s.1 < x) : clStep s x = (x, s.2 ++ [x]) := by unfold clStep; rw [if_pos h]
theorem clStep_neg {s : Int × List Int} {x : Int} (h : ¬ s.1 < x) : clStep s x = s := by unfold clStep; rw [if_neg h]
theorem foldl_snoc {α β : Type} (f : β → α → β) (xs : List α) (x : α) (s : β) : (xs ++ [x]).foldl f s = f (xs.foldl f s) x := by simp
theorem clStep_len (xs : List Int) : ∀ s, (xs.foldl clStep s).2.length ≤ s.2.length + xs.length := by
  induction xs with
  | nil => intro s; simp
  | cons x xs ih =>
    intro s
    have := ih (clStep s x)
    have h2 : (clStep s x).2.length ≤ s.2.length + 1 := by unfold clStep; split <;> simp
    simp only [List.foldl_cons, List.length_cons]
    omega

end Go.Proofs.YtockkjhciojgbaaGreatDoor
