
/- What the functions of idle do to their block. No condition. -/
import Derived.Test.YtockkjhciojgbaaGreatDoorClock
import Derived.Deep.RegionHeld3
import Derived.BigRegion
namespace Go.Proofs.YtockkjhciojgbaaGreatDoor
set_option maxRecDepth 100000
set_option linter.unusedSimpArgs false
open Go.RowKit
set_option linter.unusedVariables false

def IdleB (w : World) (g : Nat) (timeout until_ is : Int) : Prop := Blk w g 147 #[.int .i64 timeout, .int .i64 until_, .int .i64 is]
theorem IdleB.mod {w w' : World} {g : Nat} {timeout until_ is : Int} {S : Nat → Prop} (h : IdleB w g timeout until_ is) (hm : Mod S w w') (hs : ¬ S g) : IdleB w' g timeout until_ is := Blk.mod h hm hs
def idleOver (is : Int) : Bool := decide (is = 2) || decide (is = 3)
def iEnd (is to_ : Int) : Int := if idleOver is = true then is else to_
def iReadU (is u now t : Int) : Int := if idleOver is = true then u else satAdd now (max t 0)
def iTickB (is u now : Int) : Bool := decide (is = 0 ∧ u ≤ now)
def iTickIs (is u now : Int) : Int := if is = 0 ∧ u ≤ now then 1 else is
theorem iEnd_over {is : Int} (h : idleOver is = true) (t : Int) : iEnd is t = is := by unfold iEnd; rw [if_pos h]
theorem iEnd_not {is : Int} (h : idleOver is = false) (t : Int) : iEnd is t = t := by unfold iEnd; rw [if_neg (by rw [h]; simp)]
theorem iReadU_over {is : Int} (h : idleOver is = true) (u n t : Int) : iReadU is u n t = u := by unfold iReadU; rw [if_pos h]
theorem iReadU_not {is : Int} (h : idleOver is = false) (u n t : Int) : iReadU is u n t = satAdd n (max t 0) := by unfold iReadU; rw [if_neg (by rw [h]; simp)]

theorem idle_New (gc oc : Nat) (now timeout : Int) (w : World) (hc : w.cell? ⟨gc, oc, none⟩ = some (.int .i64 now)) (hn : I64 now) (ht : I64 timeout) :
    Calls Tryz.prog 46 #[.pointer (some ⟨gc, oc, none⟩), .int .i64 timeout] w fun e w' => ∃ g, e = .returned (.pointer (some ⟨g, 0, none⟩)) ∧ w.heap.size ≤ g ∧ IdleB w' g timeout (satAdd now (max timeout 0)) 0 ∧ Below w.heap.size w w' := by
  go_enter Tryz.func46, Tryz.ntmps46
  go_wp2_with fail
  refine (clock_Until gc oc now timeout _ hc hn ht).mono ?_
  rintro e w' ⟨rfl, rfl⟩
  go_wp2
  go_ret
  exact ⟨w.heap.size, rfl, Nat.le_refl _, Blk.new_ _ _ _, (by repeat (first | assumption | apply bel_alloc | apply bel_drewN | apply bel_drew | exact bel_refl _))⟩
theorem idle_Is (g : Nat) (timeout until_ is : Int) (w : World) (h : IdleB w g timeout until_ is) :
    Calls Tryz.prog 54 #[.pointer (some ⟨g, 0, none⟩)] w fun e w' => e = .returned (.int .i64 is) ∧ w = w' := by
  have h2 : w.cell? ⟨g, 2, none⟩ = some (.int .i64 is) := by simpa using Blk.cell h 2
  go_enter Tryz.func54, Tryz.ntmps54
  go_wp2
  go_ret
  exact ⟨rfl, rfl⟩
theorem idle_Over (g : Nat) (timeout until_ is : Int) (w : World) (h : IdleB w g timeout until_ is) :
    Calls Tryz.prog 137 #[.pointer (some ⟨g, 0, none⟩)] w fun e w' => e = .returned (.bool (idleOver is)) ∧ w = w' := by
  have h2 : w.cell? ⟨g, 2, none⟩ = some (.int .i64 is) := by simpa using Blk.cell h 2
  by_cases c1 : is = 2
  · have b1 : (is == 2) = true := by simpa using c1
    have HE := hid' (show idleOver is = true by unfold idleOver; simp [c1])
    clear c1
    go_enter Tryz.func137, Tryz.ntmps137
    go_wp2
    go_ret
    exact ⟨ret_bool HE.out.symm, rfl⟩
  · have b1 : (is == 2) = false := by simpa using c1
    by_cases c2 : is = 3
    · have b2 : (is == 3) = true := by simpa using c2
      have HE := hid' (show idleOver is = true by unfold idleOver; simp [c2])
      clear c1 c2
      go_enter Tryz.func137, Tryz.ntmps137
      go_wp2
      go_ret
      exact ⟨ret_bool HE.out.symm, rfl⟩
    · have b2 : (is == 3) = false := by simpa using c2
      have HE := hid' (show idleOver is = false by unfold idleOver; simp [c1, c2])
      clear c1 c2
      go_enter Tryz.func137, Tryz.ntmps137
      go_wp2
      go_ret
      exact ⟨ret_bool HE.out.symm, rfl⟩
theorem idle_end (g : Nat) (timeout until_ is to_ : Int) (w : World) (h : IdleB w g timeout until_ is) :
    Calls Tryz.prog 131 #[.pointer (some ⟨g, 0, none⟩), .int .i64 to_] w fun e w' => e = .returned (.bool (!idleOver is)) ∧ IdleB w' g timeout until_ (iEnd is to_) ∧ Mod (fun k => k = g) w w' := by
  have HH := hid' h
  have h2 : w.cell? ⟨g, 2, none⟩ = some (.int .i64 is) := by simpa using Blk.cell h 2
  have f2 := Blk.frozen h 2
  cases ho : idleOver is
  · have HO := hid' ho
    rw [iEnd_not ho]
    clear h ho
    go_enter Tryz.func131, Tryz.ntmps131
    go_wp2_with fail
    refine (idle_Over g timeout until_ is _ HH.out).mono ?_
    rintro e w' ⟨rfl, rfl⟩
    rw [HO.out]
    go_wp2
    go_ret
    exact ⟨rfl, (HH.out.set 2 _).cast (by simp), (Mod.refl (fun k => k = g) w).setCell (p := ⟨g, 2, none⟩) (fun _ => rfl) _⟩
  · have HO := hid' ho
    rw [iEnd_over ho]
    clear h ho
    go_enter Tryz.func131, Tryz.ntmps131
    go_wp2_with fail
    refine (idle_Over g timeout until_ is _ HH.out).mono ?_
    rintro e w' ⟨rfl, rfl⟩
    rw [HO.out]
    go_wp2
    go_ret
    exact ⟨rfl, HH.out, Mod.refl _ _⟩
theorem idle_End (g : Nat) (timeout until_ is : Int) (w : World) (h : IdleB w g timeout until_ is) :
    Calls Tryz.prog 90 #[.pointer (some ⟨g, 0, none⟩)] w fun e w' => e = .returned (.bool (!idleOver is)) ∧ IdleB w' g timeout until_ (iEnd is 2) ∧ Mod (fun k => k = g) w w' := by
  have HH := hid' h
  clear h
  go_enter Tryz.func90, Tryz.ntmps90
  go_wp2_with fail
  refine (idle_end g timeout until_ is 2 _ HH.out).mono ?_
  rintro e w' ⟨rfl, h1, h2⟩
  have H1 := hid' h1
  clear h1
  go_wp2
  go_ret
  exact ⟨rfl, H1.out, h2⟩
theorem idle_Fail (g : Nat) (timeout until_ is : Int) (w : World) (h : IdleB w g timeout until_ is) :
    Calls Tryz.prog 91 #[.pointer (some ⟨g, 0, none⟩)] w fun e w' => e = .returned (.bool (!idleOver is)) ∧ IdleB w' g timeout until_ (iEnd is 3) ∧ Mod (fun k => k = g) w w' := by
  have HH := hid' h
  clear h
  go_enter Tryz.func91, Tryz.ntmps91
  go_wp2_with fail
  refine (idle_end g timeout until_ is 3 _ HH.out).mono ?_
  rintro e w' ⟨rfl, h1, h2⟩
  have H1 := hid' h1
  clear h1
  go_wp2
  go_ret
  exact ⟨rfl, H1.out, h2⟩
theorem idle_Tick (g gc oc : Nat) (now timeout until_ is : Int) (w : World) (h : IdleB w g timeout until_ is) (hc : w.cell? ⟨gc, oc, none⟩ = some (.int .i64 now)) :
    Calls Tryz.prog 98 #[.pointer (some ⟨g, 0, none⟩), .pointer (some ⟨gc, oc, none⟩)] w fun e w' =>
      e = .returned (.bool (iTickB is until_ now)) ∧ IdleB w' g timeout until_ (iTickIs is until_ now) ∧ Mod (fun k => k = g) w w' := by
  unfold iTickB iTickIs
  have HH := hid' h
  have h1 : w.cell? ⟨g, 1, none⟩ = some (.int .i64 until_) := by simpa using Blk.cell h 1
  have h2 : w.cell? ⟨g, 2, none⟩ = some (.int .i64 is) := by simpa using Blk.cell h 2
  have f2 := Blk.frozen h 2
  clear h
  by_cases c1 : is = 0
  · have b1 : (is != 0) = false := by simpa using c1
    by_cases c2 : until_ ≤ now
    · have b2 : decide (until_ ≤ now) = true := by rw [decide_eq_true_eq]; exact c2
      rw [show decide (is = 0 ∧ until_ ≤ now) = true from decide_eq_true ⟨c1, c2⟩, if_pos ⟨c1, c2⟩]
      clear c1 c2
      go_enter Tryz.func98, Tryz.ntmps98
      go_wp2_with fail
      refine (clock_Past gc oc now until_ _ hc).mono ?_
      rintro e w' ⟨rfl, rfl⟩
      rw [b2]
      go_wp2
      go_ret
      exact ⟨rfl, (HH.out.set 2 _).cast (by simp), (Mod.refl (fun k => k = g) w).setCell (p := ⟨g, 2, none⟩) (fun _ => rfl) _⟩
    · have b2 : decide (until_ ≤ now) = false := by rw [decide_eq_false_iff_not]; exact c2
      rw [show decide (is = 0 ∧ until_ ≤ now) = false from decide_eq_false (fun h => c2 h.2), if_neg (fun h => c2 h.2)]
      clear c1 c2
      go_enter Tryz.func98, Tryz.ntmps98
      go_wp2_with fail
      refine (clock_Past gc oc now until_ _ hc).mono ?_
      rintro e w' ⟨rfl, rfl⟩
      rw [b2]
      go_wp2
      go_ret
      exact ⟨rfl, HH.out, Mod.refl _ _⟩
  · have b1 : (is != 0) = true := by simpa using c1
    rw [show decide (is = 0 ∧ until_ ≤ now) = false from decide_eq_false (fun h => c1 h.1), if_neg (fun h => c1 h.1)]
    clear c1
    go_enter Tryz.func98, Tryz.ntmps98
    go_wp2
    go_ret
    exact ⟨rfl, HH.out, Mod.refl _ _⟩
theorem idle_Read (g gc oc : Nat) (now timeout until_ is : Int) (w : World) (h : IdleB w g timeout until_ is) (hc : w.cell? ⟨gc, oc, none⟩ = some (.int .i64 now)) (hg : g ≠ gc) (hn : I64 now) (ht : I64 timeout) :
    Calls Tryz.prog 101 #[.pointer (some ⟨g, 0, none⟩), .pointer (some ⟨gc, oc, none⟩)] w fun e w' =>
      e = .returned (.bool (!idleOver is)) ∧ IdleB w' g timeout (iReadU is until_ now timeout) (iEnd is 0) ∧ Mod (fun k => k = g) w w' := by
  have HH := hid' h
  have h0 : w.cell? ⟨g, 0, none⟩ = some (.int .i64 timeout) := by simpa using Blk.cell h 0
  have h1 : w.cell? ⟨g, 1, none⟩ = some (.int .i64 until_) := by simpa using Blk.cell h 1
  have h2 : w.cell? ⟨g, 2, none⟩ = some (.int .i64 is) := by simpa using Blk.cell h 2
  have f1 := Blk.frozen h 1
  have f2 := Blk.frozen h 2
  have hg' : gc ≠ g := hg.symm
  cases ho : idleOver is
  · have HO := hid' ho
    rw [iEnd_not ho, iReadU_not ho]
    clear h ho
    go_enter Tryz.func101, Tryz.ntmps101
    go_wp2_with fail
    refine (idle_Over g timeout until_ is _ HH.out).mono ?_
    rintro e w' ⟨rfl, rfl⟩
    rw [HO.out]
    go_wp2_with fail
    refine (clock_Until gc oc now timeout _ hc hn ht).mono ?_
    rintro e w' ⟨rfl, rfl⟩
    go_wp2
    go_ret
    exact ⟨rfl, ((HH.out.set 2 _).set 1 _).cast (by simp), ((Mod.refl (fun k => k = g) w).setCell (p := ⟨g, 2, none⟩) (fun _ => rfl) _).setCell (p := ⟨g, 1, none⟩) (fun _ => rfl) _⟩
  · have HO := hid' ho
    rw [iEnd_over ho, iReadU_over ho]
    clear h ho
    go_enter Tryz.func101, Tryz.ntmps101
    go_wp2_with fail
    refine (idle_Over g timeout until_ is _ HH.out).mono ?_
    rintro e w' ⟨rfl, rfl⟩
    rw [HO.out]
    go_wp2
    go_ret
    exact ⟨rfl, HH.out, Mod.refl _ _⟩
end Go.Proofs.YtockkjhciojgbaaGreatDoor
