
/- What the functions of frame compute, and their reference. No condition. -/
import Derived.Test.YteifpdpppndipaaFramePure
import Derived.Deep.RegionWith
import Derived.BigRegion
import Derived.Deep.RegionHeld
namespace Go.Proofs.Yteifpdpppndipaa
set_option maxRecDepth 100000
set_option linter.unusedSimpArgs false
open Go.RowKit
set_option linter.unusedVariables false
set_option linter.unusedSimpArgs false

def recV (r : Rec) : Value := .agg #[.int .i64 r.1, .int .i64 r.2.1, .string r.2.2]
theorem frame_Kind (k : Int) (w : World) : Calls Try.prog 19 #[.int .i64 k] w fun e w' => e = .returned (.bool (kindOk k)) ∧ w = w' := by
  by_cases h1 : k = 1
  · subst h1
    go_enter Try.func19, Try.ntmps19
    go_wp2
    go_ret
    exact ⟨rfl, rfl⟩
  · by_cases h2 : k = 2
    · subst h2
      go_enter Try.func19, Try.ntmps19
      go_wp2
      go_ret
      exact ⟨rfl, rfl⟩
    · have e1 : (k == 1) = false := by rw [beq_eq_false_iff_ne]; exact h1
      have e2 : (k == 2) = false := by rw [beq_eq_false_iff_ne]; exact h2
      have HD := hid' (show kindOk k = false by unfold kindOk; rw [e1, e2]; rfl)
      clear h1 h2
      go_enter Try.func19, Try.ntmps19
      go_wp2
      go_ret
      exact ⟨ret_bool HD.out.symm, rfl⟩
theorem byte_cell (k : Int) : bcell (UInt8.ofNat (k % 256).toNat) = .int .u8 (k % 256) := by
  rw [bcell_ofNat (by omega)]; congr 1; omega
theorem own_one (w : World) (e : TypeId) (a : UInt8) : OwnC (w.alloc (.cells #[bcell a] e)) w.heap.size (.slice (some ⟨w.heap.size, 0, none⟩) 1 1) 1 ([a].map bcell) :=
  ⟨rfl, by unfold maxLen; omega, .inr ⟨w.heap.size, 1, rfl, Nat.le_refl _, by simp, Nat.le_refl _, fun j u hj => by
    rw [(Blk.new_ w e #[bcell a]).cell]
    simpa using hj, fun j h1 h2 => by omega⟩⟩
theorem own_byte (w : World) (e : TypeId) (k : Int) : OwnC (w.alloc (.cells #[.int .u8 (k % 256)] e)) w.heap.size (.slice (some ⟨w.heap.size, 0, none⟩) 1 1) 1 ([UInt8.ofNat (k % 256).toNat].map bcell) := by
  have := own_one w e (UInt8.ofNat (k % 256).toNat)
  rwa [byte_cell] at this
theorem conv_byte (w : World) (k : Int) : (convert 24 9 (.slice (some ⟨w.heap.size, 0, none⟩) 1 1)).run Try.prog (w.alloc (.cells #[.int .u8 (k % 256)] 5)) = .ok (.string (strOf [UInt8.ofNat (k % 256).toNat])) (w.alloc (.cells #[.int .u8 (k % 256)] 5)) :=
  (own_byte w 5 k).string 24 9 5 (by kernel_rfl) (by kernel_rfl) (by kernel_rfl)
theorem vput10 (n : Nat) (h : n < 18446744073709551616) : (vput n).length ≤ 10 := by
  have := vput_len 9 n (by have : (128 : Nat) ^ (9 + 1) = 1180591620717411303424 := by decide
                           omega)
  omega
theorem body_eq (r : Rec) : recBody r = strOf [UInt8.ofNat (r.1 % 256).toNat] ++ strOf (vput (vfold r.2.1)) ++ r.2.2 := by
  apply bl_inj
  rw [recBody_bl, bl_app, bl_app, bl_str, bl_str]
  rfl
def byteStr (k : Int) : ByteArray := strOf [UInt8.ofNat (k % 256).toNat]
theorem byteStr_size (k : Int) : (byteStr k).size = 1 := rfl
theorem u8_wrap' (n : Int) : IntKind.u8.wrap n = n % 256 := by simp [IntKind.wrap, IntKind.bits, IntKind.signed]
theorem conv_byteW (w w' : World) (k : Int) (hb : Below (w.alloc (.cells #[.int .u8 (IntKind.u8.wrap k)] 5)).heap.size (w.alloc (.cells #[.int .u8 (IntKind.u8.wrap k)] 5)) w') :
    (convert 24 9 (.slice (some ⟨w.heap.size, 0, none⟩) 1 1)).run Try.prog w' = .ok (.string (byteStr k)) w' := by
  rw [u8_wrap'] at hb
  exact ((own_byte w 5 k).below hb).string 24 9 5 (by kernel_rfl) (by kernel_rfl) (by kernel_rfl)
theorem cells_below {W W' : World} {b : Nat} {x y z : Value} (h : W.cell? ⟨b, 0, none⟩ = some x ∧ W.cell? ⟨b, 1, none⟩ = some y ∧ W.cell? ⟨b, 2, none⟩ = some z) (hb : Below W.heap.size W W') :
    W'.cell? ⟨b, 0, none⟩ = some x ∧ W'.cell? ⟨b, 1, none⟩ = some y ∧ W'.cell? ⟨b, 2, none⟩ = some z := by
  have hl : b < W.heap.size := World.block_lt_of_cell? W _ h.1
  exact ⟨(hb.cell (p := ⟨b, 0, none⟩) hl).trans h.1, (hb.cell (p := ⟨b, 1, none⟩) hl).trans h.2.1, (hb.cell (p := ⟨b, 2, none⟩) hl).trans h.2.2⟩
end Go.Proofs.Yteifpdpppndipaa
