
/- The laws of layer 3 (crc), walked: the sums, and what is opened. No condition. -/
import Derived.Test.YteifpdpppndipaaCrcRefC
namespace Go.Proofs.Yteifpdpppndipaa
set_option maxRecDepth 100000
set_option linter.unusedSimpArgs false
open Go.RowKit
set_option linter.unusedVariables false
set_option linter.unusedSimpArgs false

def lit19 : ByteArray := { data := #[49, 50, 51, 52, 53, 54, 55, 56, 57] }
theorem crc_lit19 : crcStr lit19 = 3421780262 := by kernel_rfl
theorem seal_lit0 : cseal { data := #[] } = { data := #[0, 0, 0, 0] } := by kernel_rfl
theorem cseal_size (s : ByteArray) : (cseal s).size = s.size + 4 := by
  unfold cseal
  rw [ByteArray.size_append]
  rfl
theorem cseal_cut (s : ByteArray) : (cseal s).extract 0 ((cseal s).size - 4) = s := by
  rw [cseal_size]
  apply ByteArray.ext
  rw [ByteArray.data_extract]
  unfold cseal
  rw [ByteArray.data_append]
  apply Array.ext'
  rw [Array.toList_extract]
  have hl : s.data.toList.length = s.size := by rw [Array.length_toList]; rfl
  simp [List.extract_eq_take_drop]
theorem copen_seal (s : ByteArray) : copen (cseal s) = some s := by
  unfold copen
  rw [if_neg (by rw [cseal_size]; omega), cseal_cut, if_pos rfl]

end Go.Proofs.Yteifpdpppndipaa
