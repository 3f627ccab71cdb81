
/- What the listed variables hold, as the walks of texts in marks want it. No condition. -/
import Derived.Test.YtockkjhciojgbaaGreatDoorTabsQ
import Derived.Test.YtockkjhciojgbaaGreatDoorPackQ
namespace Go.Proofs.YtockkjhciojgbaaGreatDoor
set_option maxRecDepth 100000
set_option linter.unusedSimpArgs false
open Go.RowKit
theorem tab_tz {w : World} (h : Lib.VarReads Tryz.prog w "math/bits.deBruijn64tab" Rows.laid_math_bits_deBruijn64tab) : TzT w := by
  have h1 := (tab_dB h).cell (g := 5) (by kernel_rfl) 15 (by decide)
  unfold TzT
  rw [h1]
  rfl
theorem ErV.t {w : World} (h : ErV w) : ErT w := by
  obtain ⟨⟨t, p, h1⟩, t', p', h2⟩ := h
  refine ⟨⟨t, p, ?_⟩, t', p', ?_⟩
  · rw [World.var?_cell (show Tryz.prog.globalNamed "strconv.ErrSyntax" = some 6 by kernel_rfl) h1]; rfl
  · rw [World.var?_cell (show Tryz.prog.globalNamed "strconv.ErrRange" = some 7 by kernel_rfl) h2]; rfl
theorem tab_er {w : World} (h1 : Lib.VarReads Tryz.prog w "strconv.ErrSyntax" Rows.laid_strconv_ErrSyntax) (h2 : Lib.VarReads Tryz.prog w "strconv.ErrRange" Rows.laid_strconv_ErrRange) : ErT w := (tab_erv h1 h2).t
end Go.Proofs.YtockkjhciojgbaaGreatDoor
