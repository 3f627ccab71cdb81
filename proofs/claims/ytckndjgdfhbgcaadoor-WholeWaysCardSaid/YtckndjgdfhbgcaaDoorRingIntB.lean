
/- What the ring's other functions answer: a ring of whole numbers. No condition. -/
import Derived.Test.YtckndjgdfhbgcaaDoorRingInt
import Derived.Deep.OwnRows
namespace Go.Proofs.YtckndjgdfhbgcaaDoor
set_option maxRecDepth 100000
set_option linter.unusedSimpArgs false
open Go.RowKit
set_option linter.unusedVariables false

theorem ringInt_New (room : Int) (w : World) (hr : room ≤ 1000000) :
    Calls Tryd.prog 23 #[.int .i64 room] w fun e w' => ∃ g b, e = .returned (.pointer (some ⟨g, 0, none⟩)) ∧ w.heap.size ≤ g ∧ w.heap.size ≤ b ∧ RingInt w' g b (max room 1).toNat [] ∧ Below w.heap.size w w' := by
  obtain ⟨n, hn⟩ : ∃ n : Nat, max room 1 = (n : Int) := ⟨(max room 1).toNat, by omega⟩
  have hmk := run_make_row' (P := Tryd.prog) 33 3 (.int .i64 0) 8 Tryd.underlying33 (by kernel_rfl) rfl .i64 .i64 n (by omega) (by omega)
  have hmax : max room 1 = (n : Int) := hn
  have hT : (max room 1).toNat = n := by omega
  rw [hT]
  have hn1 : 0 < n := by omega
  clear hn hT
  have HM := hid' hmax
  go_enter Tryd.func23, Tryd.ntmps23
  go_wp2
  go_ret
  refine ⟨w.heap.size + 1, w.heap.size, rfl, by omega, by omega, ⟨0, madeCells #[(.int .i64 0)] n, ?_, ?_, Holds.none _ n hn1 _ (by simp [madeCells])⟩, (by repeat (first | assumption | apply bel_alloc | apply bel_drewN | apply bel_drew | exact bel_refl _))⟩
  · have := Blk.new_ (w.alloc (.cells (madeCells #[(.int .i64 0)] n) 3)) 63 #[.slice (some ⟨w.heap.size, 0, none⟩) n n, .int .i64 0, .int .i64 0]
    simpa using this
  · exact (Blk.new_ w 3 (madeCells #[(.int .i64 0)] n)).alloc _

end Go.Proofs.YtckndjgdfhbgcaaDoor
