/- What the ring's other functions answer: a ring of whole numbers. No condition. -/
import Derived.Test.YtoajlogbdkinkaaRingInt
import Derived.Deep.OwnRows
namespace Go.Proofs.Ytoajlogbdkinkaa
open Go.RowKit
set_option linter.unusedVariables false

theorem ringInt_New (room : Int) (w : World) (hr : room ≤ 1000000) :
    Calls Try.prog 37 #[.int .i64 room] w fun e w' => ∃ g b, e = .returned (.pointer (some ⟨g, 0, none⟩)) ∧ w.heap.size ≤ g ∧ w.heap.size ≤ b ∧ RingInt w' g b (max room 1).toNat [] ∧ Below w.heap.size w w' := by
  obtain ⟨n, hn⟩ : ∃ n : Nat, max room 1 = (n : Int) := ⟨(max room 1).toNat, by omega⟩
  have hmk := run_make_row' (P := Try.prog) 26 3 (.int .i64 0) 8 Try.underlying26 (by kernel_rfl) rfl .i64 .i64 n (by omega) (by omega)
  have hmax : max room 1 = (n : Int) := hn
  have hT : (max room 1).toNat = n := by omega
  rw [hT]
  have hn1 : 0 < n := by omega
  clear hn hT
  have HM := hid' hmax
  go_enter Try.func37, Try.ntmps37
  go_wp2
  go_ret
  refine ⟨w.heap.size + 1, w.heap.size, rfl, by omega, by omega, ⟨0, madeCells #[(.int .i64 0)] n, ?_, ?_, Holds.none _ n hn1 _ (by simp [madeCells])⟩, (by repeat (first | assumption | apply bel_alloc | apply bel_drewN | apply bel_drew | exact bel_refl _))⟩
  · have := Blk.new_ (w.alloc (.cells (madeCells #[(.int .i64 0)] n) 3)) 69 #[.slice (some ⟨w.heap.size, 0, none⟩) n n, .int .i64 0, .int .i64 0]
    simpa using this
  · exact (Blk.new_ w 3 (madeCells #[(.int .i64 0)] n)).alloc _

theorem ringInt_Len (g b n : Nat) (q : List Int) (w : World) (h : RingInt w g b n q) :
    Calls Try.prog 39 #[.pointer (some ⟨g, 0, none⟩)] w fun e w' => e = .returned (.int .i64 q.length) ∧ w = w' := by
  obtain ⟨first, cs, h, hb, hh⟩ := h
  have h2 : w.cell? ⟨g, 2, none⟩ = some (.int .i64 q.length) := by simpa using h.cell 2
  go_enter Try.func39, Try.ntmps39
  go_wp2
  go_ret
  exact ⟨rfl, rfl⟩
theorem ringInt_Room (g b n : Nat) (q : List Int) (w : World) (h : RingInt w g b n q) :
    Calls Try.prog 40 #[.pointer (some ⟨g, 0, none⟩)] w fun e w' => e = .returned (.int .i64 n) ∧ w = w' := by
  obtain ⟨first, cs, h, hb, hh⟩ := h
  have h0 : w.cell? ⟨g, 0, none⟩ = some (.slice (some ⟨b, 0, none⟩) n n) := by simpa using h.cell 0
  go_enter Try.func40, Try.ntmps40
  go_wp2
  go_ret
  exact ⟨rfl, rfl⟩
theorem ringInt_At_no (g b n : Nat) (q : List Int) (i : Int) (w : World) (h : RingInt w g b n q) (hm : n ≤ 1000000) (hi : i < 0 ∨ (q.length : Int) ≤ i) :
    Calls Try.prog 42 #[.pointer (some ⟨g, 0, none⟩), .int .i64 i] w fun e w' => e = .returned (.tuple #[(.int .i64 0), .bool false]) ∧ w = w' := by
  obtain ⟨first, cs, h, hb, hh⟩ := h
  have h2 : w.cell? ⟨g, 2, none⟩ = some (.int .i64 q.length) := by simpa using h.cell 2
  rcases hi with hi | hi
  · have hd : decide (i < 0) = true := by rw [decide_eq_true_eq]; exact hi
    go_enter Try.func42, Try.ntmps42
    go_wp2
    go_ret2
    exact ⟨rfl, rfl⟩
  · have hd : decide (i < 0) = false := by rw [decide_eq_false_iff_not]; omega
    have hd2 : decide ((q.length : Int) ≤ i) = true := by rw [decide_eq_true_eq]; exact hi
    go_enter Try.func42, Try.ntmps42
    go_wp2
    go_ret2
    exact ⟨rfl, rfl⟩
theorem ringInt_At (g b n i : Nat) (q : List Int) (x : Int) (w : World) (h : RingInt w g b n q) (hm : n ≤ 1000000) (hx : q[i]? = some x) :
    Calls Try.prog 42 #[.pointer (some ⟨g, 0, none⟩), .int .i64 i] w fun e w' => e = .returned (.tuple #[(Value.int .i64) x, .bool true]) ∧ Dr w w' := by
  obtain ⟨first, cs, h, hb, hh⟩ := h
  have hi : i < q.length := (List.getElem?_eq_some_iff.1 hx).1
  have hc := hh.2.2.2 i x hx
  have h0 : w.cell? ⟨g, 0, none⟩ = some (.slice (some ⟨b, 0, none⟩) n n) := by simpa using h.cell 0
  have h2 : w.cell? ⟨g, 2, none⟩ = some (.int .i64 q.length) := by simpa using h.cell 2
  have hfl := hh.2.1
  have hql := hh.2.2.1
  have hn : 0 < n := by omega
  have hlt := Nat.mod_lt (first + i) hn
  have hb0 : w.cell? ⟨b, (first + i) % n, none⟩ = some ((Value.int .i64) x) := by rw [hb.cell]; exact hc
  have hd : decide ((i : Int) < 0) = false := by rw [decide_eq_false_iff_not]; omega
  have hd2 : decide (q.length ≤ i) = false := by rw [decide_eq_false_iff_not]; omega
  have HP := hid' fun (wx : World) (hw : Dr w wx) => ringInt_place g b n first q.length i wx (by obtain ⟨k, rfl⟩ := hw; exact h) hn hfl (by omega) hm
  generalize (first + i) % n = M at *
  have hM0 : (0 : Int) ≤ (M : Int) := by omega
  have hM1 : (M : Int) < (n : Int) := by omega
  clear h hb hh hx hc
  go_enter Try.func42, Try.ntmps42
  go_wp2
  go_quiet ((go_at_call 54; exact quiet_gen (HP.out _ (by repeat (first | exact Dr.refl _ | apply Dr.step | apply Dr.stepd))) (by repeat (first | exact Dr.refl _ | apply Dr.step | apply Dr.stepd))))
  go_wp2
  go_ret2
  exact ⟨rfl, (by repeat (first | exact Dr.refl _ | apply Dr.step | apply Dr.stepd))⟩

end Go.Proofs.Ytoajlogbdkinkaa
