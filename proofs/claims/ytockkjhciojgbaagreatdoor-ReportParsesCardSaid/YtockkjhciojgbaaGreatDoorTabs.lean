
/- What the listed variables hold: Go's tables for the bytes of signs. No condition. -/
import Derived.Test.YtockkjhciojgbaaGreatDoorRows
import Derived.Test.YtockkjhciojgbaaGreatDoorShelf
import Derived.Test.YtockkjhciojgbaaGreatDoorPackA
import Derived.Lib.LaidU8
import Derived.PinnedBridge
namespace Go.Proofs.YtockkjhciojgbaaGreatDoor
set_option maxRecDepth 100000
set_option linter.unusedSimpArgs false
open Go.RowKit

def U8T (w : World) : Prop := Lib.Utf8Tabs 1 2 w
theorem tab_u8 {w : World} (h3 : Lib.VarReads Tryz.prog w "unicode/utf8.first" Rows.laid_unicode_utf8_first) (h4 : Lib.VarReads Tryz.prog w "unicode/utf8.acceptRanges" Rows.laid_unicode_utf8_acceptRanges) : U8T w :=
  utf8Tabs_of_reads Tryz.lays260 { n3 := by kernel_rfl, n4 := by kernel_rfl, y3 := by kernel_rfl, y4 := by kernel_rfl, c5 := by kernel_rfl, c119 := by kernel_rfl, c138 := by kernel_rfl }
    (by rw [show Rows.laid_unicode_utf8_first = Lib.firstData from Pinned.utf8First_eq] at h3; exact h3)
    (by rw [show (Rows.laid_unicode_utf8_acceptRanges : DataW Unit) = Lib.acceptData from by kernel_rfl] at h4; exact h4)
theorem U8T.below {w w' : World} (h : U8T w) (hb : Below w.heap.size w w') : U8T w' :=
  ⟨fun c hc => by have := h.1 c hc; exact (hb.cell (World.block_lt_of_cell? w _ this)).trans this,
   fun i hi => by
    obtain ⟨h1, h2⟩ := h.2 i hi
    exact ⟨(hb.cell (World.block_lt_of_cell? w _ h1)).trans h1, (hb.cell (World.block_lt_of_cell? w _ h2)).trans h2⟩⟩
theorem U8T.mod {S : Nat → Prop} {w w' : World} (h : U8T w) (hb : Mod S w w') (h0 : ¬ S 1) (h1 : ¬ S 2) : U8T w' :=
  ⟨fun c hc => hb.cell (h.1 c hc) h0, fun i hi => ⟨hb.cell (h.2 i hi).1 h1, hb.cell (h.2 i hi).2 h1⟩⟩
theorem U8T.lt {w : World} (h : U8T w) : 1 < w.heap.size ∧ 2 < w.heap.size :=
  ⟨World.block_lt_of_cell? w _ (h.1 0 (by omega)), World.block_lt_of_cell? w _ (h.2 0 (by omega)).1⟩
end Go.Proofs.YtockkjhciojgbaaGreatDoor
