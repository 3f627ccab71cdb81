
/- What the ring's functions do to its block and to its row: a ring of whole numbers. No condition. -/
import Derived.Test.YtckndjgdfhbgcaaDoorSat
import Derived.Test.YtckndjgdfhbgcaaDoorOwn
import Derived.Test.YtckndjgdfhbgcaaDoorRingPure
import Derived.BigRegion
import Derived.Deep.RegionHeld3
namespace Go.Proofs.YtckndjgdfhbgcaaDoor
set_option maxRecDepth 100000
set_option linter.unusedSimpArgs false
open Go.RowKit
set_option linter.unusedVariables false

theorem ringInt_place (g b n first many i : Nat) (w : World) (h : Blk w g 63 #[.slice (some ⟨b, 0, none⟩) n n, .int .i64 first, .int .i64 many]) (hn : 0 < n) (hf : first < n) (hi : i ≤ n) (hm : n ≤ 1000000) :
    Calls Tryd.prog 32 #[.pointer (some ⟨g, 0, none⟩), .int .i64 i] w fun e w' => e = .returned (.int .i64 ((first + i) % n : Nat)) ∧ Dr w w' := by
  have h0 : w.cell? ⟨g, 0, none⟩ = some (.slice (some ⟨b, 0, none⟩) n n) := by simpa using h.cell 0
  have h1 : w.cell? ⟨g, 1, none⟩ = some (.int .i64 first) := by simpa using h.cell 1
  have hw : IntKind.i64.wrap ((first : Int) + (i : Int)) = (first : Int) + (i : Int) := IntWalk.i64_in _ (by omega)
  have hz : ((n : Int) == 0) = false := by rw [beq_eq_false_iff_ne]; omega
  have hp : (0 : Int) ≤ (first : Int) + (i : Int) := by omega
  go_enter Tryd.func32, Tryd.ntmps32
  go_wp2
  go_quiet (fail)
  go_wp2
  go_ret
  exact ⟨ret_int (by simp), (by repeat (first | exact Dr.refl _ | apply Dr.step | apply Dr.stepd))⟩
/-- The same with the number 1. -/
theorem ringInt_place1 (g b n first many : Nat) (w : World) (h : Blk w g 63 #[.slice (some ⟨b, 0, none⟩) n n, .int .i64 first, .int .i64 many]) (hn : 0 < n) (hf : first < n) (hm : n ≤ 1000000) :
    Calls Tryd.prog 32 #[.pointer (some ⟨g, 0, none⟩), .int .i64 1] w fun e w' => e = .returned (.int .i64 ((first + 1) % n : Nat)) ∧ Dr w w' :=
  ringInt_place g b n first many 1 w h hn hf (by omega) hm

/-- A ring of n places at block g, its row block b: it holds q, the eldest first. -/
def RingInt (w : World) (g b n : Nat) (q : List Int) : Prop := ∃ (first : Nat) (cs : Array Value), Blk w g 63 #[.slice (some ⟨b, 0, none⟩) n n, .int .i64 first, .int .i64 q.length] ∧ Blk w b 3 cs ∧ Holds (Value.int .i64) n first cs q
theorem RingInt.mod {w w' : World} {g b n : Nat} {q : List Int} {S : Nat → Prop} (h : RingInt w g b n q) (hm : Mod S w w') (h1 : ¬ S g) (h2 : ¬ S b) : RingInt w' g b n q := by
  obtain ⟨first, cs, hg, hb, hh⟩ := h
  exact ⟨first, cs, hg.mod hm h1, hb.mod hm h2, hh⟩
theorem RingInt.drewN {w : World} {g b n : Nat} {q : List Int} (h : RingInt w g b n q) (m : Nat) : RingInt (w.drewN m) g b n q := h
theorem RingInt.below {w w' : World} {g b n : Nat} {q : List Int} (h : RingInt w g b n q) (hm : Below w.heap.size w w') : RingInt w' g b n q :=
  h.mod (Mod.of_below (S := fun _ => False) hm) id id
theorem RingInt.len {w : World} {g b n : Nat} {q : List Int} (h : RingInt w g b n q) : q.length ≤ n ∧ 0 < n := by
  obtain ⟨first, cs, _, _, hh⟩ := h
  exact ⟨hh.2.2.1, by have := hh.2.1; omega⟩

theorem ringInt_Push (g b n : Nat) (q : List Int) (x : Int) (w : World) (h : RingInt w g b n q) (hm : n ≤ 1000000) :
    Calls Tryd.prog 26 #[.pointer (some ⟨g, 0, none⟩), (Value.int .i64) x] w fun e w' =>
      e = .returned (.tuple #[(Value.int .i64) (if q.length < n then (0 : Int) else q.headD (0 : Int)), .bool (decide (n ≤ q.length))]) ∧
      RingInt w' g b n (if q.length < n then q ++ [x] else q.tail ++ [x]) ∧ Mod (fun k => k = g ∨ k = b) w w' := by
  obtain ⟨first, cs, h, hb, hh⟩ := h
  have h0 : w.cell? ⟨g, 0, none⟩ = some (.slice (some ⟨b, 0, none⟩) n n) := by simpa using h.cell 0
  have h1 : w.cell? ⟨g, 1, none⟩ = some (.int .i64 first) := by simpa using h.cell 1
  have h2 : w.cell? ⟨g, 2, none⟩ = some (.int .i64 q.length) := by simpa using h.cell 2
  have hfl := hh.2.1
  have hql := hh.2.2.1
  have hn : 0 < n := by omega
  have hcs := hh.1
  have hgf := h.frozen 2
  have hgf1 := h.frozen 1
  have hgb : g ≠ b := h.ne hb (by decide)
  have hbg : b ≠ g := hgb.symm
  by_cases hq : q.length < n
  · have hlt := Nat.mod_lt (first + q.length) hn
    have hb0 : w.cell? ⟨b, (first + q.length) % n, none⟩ = some cs[(first + q.length) % n] := by rw [hb.cell]; exact Array.getElem?_eq_getElem (by omega)
    have hbf := hb.frozen ((first + q.length) % n)
    have HH := hid' h
    have HB := hid' hb
    have HW := hid' (hh.push hq x)
    rw [if_pos hq, if_pos hq, show decide (n ≤ q.length) = false by rw [decide_eq_false_iff_not]; omega]
    generalize cs[(first + q.length) % n] = old at *
    clear h hb hh hcs h1 hgf1
    have HP := hid' fun (wx : World) => ringInt_place g b n first q.length q.length wx
    generalize hM : (first + q.length) % n = M at *
    have HM := hid' hM
    clear hM
    go_enter Tryd.func26, Tryd.ntmps26
    go_wp2
    go_quiet (fail)
    go_wp2_with fail
    go_region_held3 (fun w' => w'.cell? ⟨g, 0, none⟩ = some (.slice (some ⟨b, 0, none⟩) n n) ∧ w'.cell? ⟨g, 2, none⟩ = some (.int .i64 q.length))
      (first | go_keep)
      ((go_at_call 32; refine (HP.out _ (by exact HH.out) (by omega) (by omega) (by omega) (by omega)).mono ?_; rintro e w' ⟨rfl, nd, rfl⟩))
    have HZ := hid' (show (q ++ [x]).length = q.length + 1 by simp)
    have hgf' := HH.out.frozen 2
    go_wp2
    go_ret2
    refine ⟨rfl, ⟨first, cs.setIfInBounds M ((Value.int .i64) x), ?_, ?_, HW.out⟩, ?_⟩
    · have := ((HH.out.drewN (nq + 1 + nd)).far (p := ⟨b, M, none⟩) hgb ((Value.int .i64) x)).set 2 (.int .i64 (q.length + 1))
      rw [HZ.out]
      simpa using this
    · exact ((HB.out.drewN _).set M _).far (p := ⟨g, 2, none⟩) hbg _
    · exact (((Mod.refl _ w).drewN _).setCell (p := ⟨b, M, none⟩) (fun _ => .inr rfl) _).setCell (p := ⟨g, 2, none⟩) (fun _ => .inl rfl) _
  · have hqn : q.length = n := by omega
    match q, hqn with
    | [], hqn => simp at hqn; omega
    | y :: q, hqn =>
    obtain ⟨hy, hw⟩ := hh.turn hqn x
    have hb0 : w.cell? ⟨b, first, none⟩ = some ((Value.int .i64) y) := by rw [hb.cell]; exact hy
    have hbf := hb.frozen first
    have HH := hid' h
    have HB := hid' hb
    have HW := hid' hw
    rw [if_neg hq, if_neg hq, show decide (n ≤ (y :: q).length) = true by rw [decide_eq_true_eq]; omega]
    have HQ := hid' hqn
    have hq' : decide ((y :: q).length < n) = false := by rw [decide_eq_false_iff_not]; omega
    have hf0 : (0 : Int) ≤ (first : Int) := by omega
    have hf1 : (first : Int) < (n : Int) := by omega
    have hcs' := hcs
    clear h hb hh hcs hy hw hq hqn
    have HP := hid' fun (wx : World) (cs' : Array Value) => ringInt_place1 g b n first ((y :: q).length) wx
    generalize hM : (first + 1) % n = M at *
    have HM := hid' hM
    clear hM
    generalize hL : (y :: q).length = L at *
    have HL := hid' hL
    clear hL hcs'
    go_enter Tryd.func26, Tryd.ntmps26
    go_wp2
    go_quiet (fail)
    go_wp2_with fail
    go_region
    have hbg' : (⟨b, first, none⟩ : Addr).block ≠ g := hbg
    go_wp2_with fail
    refine (HP.out _ #[] (by exact (HH.out.drewN _).far (p := ⟨b, first, none⟩) hgb _) (by omega) (by omega) (by omega)).mono ?_
    rintro e w' ⟨rfl, nd, rfl⟩
    have h1' : w.cell? ⟨g, 1, none⟩ = some (.int .i64 first) := h1
    go_wp2
    go_ret2
    refine ⟨rfl, ⟨M, cs.setIfInBounds first ((Value.int .i64) x), ?_, ?_, HW.out⟩, ?_⟩
    · rw [show ((y :: q).tail ++ [x]).length = L by have := HL.out; simp at this ⊢; omega]
      exact ((((HH.out.drewN (nq + 1)).far (p := ⟨b, first, none⟩) hgb ((Value.int .i64) x)).drewN nd).set 1 (.int .i64 M)).cast (by simp)
    · exact (((HB.out.drewN _).set first _).drewN _).far (p := ⟨g, 1, none⟩) hbg _
    · exact ((((Mod.refl _ w).drewN _).setCell (p := ⟨b, first, none⟩) (fun _ => .inr rfl) _).drewN _).setCell (p := ⟨g, 1, none⟩) (fun _ => .inl rfl) _
end Go.Proofs.YtckndjgdfhbgcaaDoor
