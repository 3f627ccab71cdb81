
/- What the ring's other functions answer: a ring of whole numbers. No condition. -/
import Derived.Test.YtcgonoepndlofaaRingInt
import Derived.Deep.OwnRows
namespace Go.Proofs.Ytcgonoepndlofaa
set_option maxRecDepth 100000
set_option linter.unusedSimpArgs false
open Go.RowKit
set_option linter.unusedVariables false

theorem ringInt_New (room : Int) (w : World) (hr : room ≤ 1000000) :
    Calls Try.prog 35 #[.int .i64 room] w fun e w' => ∃ g b, e = .returned (.pointer (some ⟨g, 0, none⟩)) ∧ w.heap.size ≤ g ∧ w.heap.size ≤ b ∧ RingInt w' g b (max room 1).toNat [] ∧ Below w.heap.size w w' := by
  obtain ⟨n, hn⟩ : ∃ n : Nat, max room 1 = (n : Int) := ⟨(max room 1).toNat, by omega⟩
  have hmk := run_make_row' (P := Try.prog) 22 3 (.int .i64 0) 8 Try.underlying22 (by kernel_rfl) rfl .i64 .i64 n (by omega) (by omega)
  have hmax : max room 1 = (n : Int) := hn
  have hT : (max room 1).toNat = n := by omega
  rw [hT]
  have hn1 : 0 < n := by omega
  clear hn hT
  have HM := hid' hmax
  go_enter Try.func35, Try.ntmps35
  go_wp2
  go_ret
  refine ⟨w.heap.size + 1, w.heap.size, rfl, by omega, by omega, ⟨0, madeCells #[(.int .i64 0)] n, ?_, ?_, Holds.none _ n hn1 _ (by simp [madeCells])⟩, (by repeat (first | assumption | apply bel_alloc | apply bel_drewN | apply bel_drew | exact bel_refl _))⟩
  · have := Blk.new_ (w.alloc (.cells (madeCells #[(.int .i64 0)] n) 3)) 107 #[.slice (some ⟨w.heap.size, 0, none⟩) n n, .int .i64 0, .int .i64 0]
    simpa using this
  · exact (Blk.new_ w 3 (madeCells #[(.int .i64 0)] n)).alloc _

theorem ringInt_Len (g b n : Nat) (q : List Int) (w : World) (h : RingInt w g b n q) :
    Calls Try.prog 36 #[.pointer (some ⟨g, 0, none⟩)] w fun e w' => e = .returned (.int .i64 q.length) ∧ w = w' := by
  obtain ⟨first, cs, h, hb, hh⟩ := h
  have h2 : w.cell? ⟨g, 2, none⟩ = some (.int .i64 q.length) := by simpa using h.cell 2
  go_enter Try.func36, Try.ntmps36
  go_wp2
  go_ret
  exact ⟨rfl, rfl⟩
end Go.Proofs.Ytcgonoepndlofaa
