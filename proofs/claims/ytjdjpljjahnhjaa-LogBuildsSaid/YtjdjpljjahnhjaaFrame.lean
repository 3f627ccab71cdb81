
/- What the functions of frame compute, and their reference. No condition. -/
import Derived.Test.YtjdjpljjahnhjaaFramePure
import Derived.Deep.RegionWith
import Derived.BigRegion
import Derived.Deep.RegionHeld
namespace Go.Proofs.Ytjdjpljjahnhjaa
set_option maxRecDepth 100000
set_option linter.unusedSimpArgs false
open Go.RowKit
set_option linter.unusedVariables false
set_option linter.unusedSimpArgs false

def recV (r : Rec) : Value := .agg #[.int .i64 r.1, .int .i64 r.2.1, .string r.2.2]
theorem frame_Kind (k : Int) (w : World) : Calls Try.prog 25 #[.int .i64 k] w fun e w' => e = .returned (.bool (kindOk k)) ∧ w = w' := by
  by_cases h1 : k = 1
  · subst h1
    go_enter Try.func25, Try.ntmps25
    go_wp2
    go_ret
    exact ⟨rfl, rfl⟩
  · by_cases h2 : k = 2
    · subst h2
      go_enter Try.func25, Try.ntmps25
      go_wp2
      go_ret
      exact ⟨rfl, rfl⟩
    · have e1 : (k == 1) = false := by rw [beq_eq_false_iff_ne]; exact h1
      have e2 : (k == 2) = false := by rw [beq_eq_false_iff_ne]; exact h2
      have HD := hid' (show kindOk k = false by unfold kindOk; rw [e1, e2]; rfl)
      clear h1 h2
      go_enter Try.func25, Try.ntmps25
      go_wp2
      go_ret
      exact ⟨ret_bool HD.out.symm, rfl⟩
theorem byte_cell (k : Int) : bcell (UInt8.ofNat (k % 256).toNat) = .int .u8 (k % 256) := by
  rw [bcell_ofNat (by omega)]; congr 1; omega
theorem own_one (w : World) (e : TypeId) (a : UInt8) : OwnC (w.alloc (.cells #[bcell a] e)) w.heap.size (.slice (some ⟨w.heap.size, 0, none⟩) 1 1) 1 ([a].map bcell) :=
  ⟨rfl, by unfold maxLen; omega, .inr ⟨w.heap.size, 1, rfl, Nat.le_refl _, by simp, Nat.le_refl _, fun j u hj => by
    rw [(Blk.new_ w e #[bcell a]).cell]
    simpa using hj, fun j h1 h2 => by omega⟩⟩
theorem own_byte (w : World) (e : TypeId) (k : Int) : OwnC (w.alloc (.cells #[.int .u8 (k % 256)] e)) w.heap.size (.slice (some ⟨w.heap.size, 0, none⟩) 1 1) 1 ([UInt8.ofNat (k % 256).toNat].map bcell) := by
  have := own_one w e (UInt8.ofNat (k % 256).toNat)
  rwa [byte_cell] at this
theorem conv_byte (w : World) (k : Int) : (convert 24 9 (.slice (some ⟨w.heap.size, 0, none⟩) 1 1)).run Try.prog (w.alloc (.cells #[.int .u8 (k % 256)] 5)) = .ok (.string (strOf [UInt8.ofNat (k % 256).toNat])) (w.alloc (.cells #[.int .u8 (k % 256)] 5)) :=
  (own_byte w 5 k).string 24 9 5 (by kernel_rfl) (by kernel_rfl) (by kernel_rfl)
theorem vput10 (n : Nat) (h : n < 18446744073709551616) : (vput n).length ≤ 10 := by
  have := vput_len 9 n (by have : (128 : Nat) ^ (9 + 1) = 1180591620717411303424 := by decide
                           omega)
  omega
theorem body_eq (r : Rec) : recBody r = strOf [UInt8.ofNat (r.1 % 256).toNat] ++ strOf (vput (vfold r.2.1)) ++ r.2.2 := by
  apply bl_inj
  rw [recBody_bl, bl_app, bl_app, bl_str, bl_str]
  rfl
def byteStr (k : Int) : ByteArray := strOf [UInt8.ofNat (k % 256).toNat]
theorem byteStr_size (k : Int) : (byteStr k).size = 1 := rfl
theorem u8_wrap' (n : Int) : IntKind.u8.wrap n = n % 256 := by simp [IntKind.wrap, IntKind.bits, IntKind.signed]
theorem conv_byteW (w w' : World) (k : Int) (hb : Below (w.alloc (.cells #[.int .u8 (IntKind.u8.wrap k)] 5)).heap.size (w.alloc (.cells #[.int .u8 (IntKind.u8.wrap k)] 5)) w') :
    (convert 24 9 (.slice (some ⟨w.heap.size, 0, none⟩) 1 1)).run Try.prog w' = .ok (.string (byteStr k)) w' := by
  rw [u8_wrap'] at hb
  exact ((own_byte w 5 k).below hb).string 24 9 5 (by kernel_rfl) (by kernel_rfl) (by kernel_rfl)
theorem cells_below {W W' : World} {b : Nat} {x y z : Value} (h : W.cell? ⟨b, 0, none⟩ = some x ∧ W.cell? ⟨b, 1, none⟩ = some y ∧ W.cell? ⟨b, 2, none⟩ = some z) (hb : Below W.heap.size W W') :
    W'.cell? ⟨b, 0, none⟩ = some x ∧ W'.cell? ⟨b, 1, none⟩ = some y ∧ W'.cell? ⟨b, 2, none⟩ = some z := by
  have hl : b < W.heap.size := World.block_lt_of_cell? W _ h.1
  exact ⟨(hb.cell (p := ⟨b, 0, none⟩) hl).trans h.1, (hb.cell (p := ⟨b, 1, none⟩) hl).trans h.2.1, (hb.cell (p := ⟨b, 2, none⟩) hl).trans h.2.2⟩
set_option maxRecDepth 100000 in
set_option maxHeartbeats 1000000 in
theorem ref05_body (r : Rec) (w : World) (ht : I64 r.2.1) (hs : r.2.2.size ≤ 200000) :
    Calls Try.prog 45 #[recV r] w fun e w' => e = .returned (.string (recBody r)) ∧ Below w.heap.size w w' := by
  obtain ⟨k, t, s⟩ := r
  have hlt := vfold_lt ht
  have hv := vput10 (vfold t) hlt
  have HE := hid' (body_eq (k, t, s))
  have hb := Blk.new_ w 37 #[.int .i64 k, .int .i64 t, .string s]
  have HB := hid' (bel_alloc (bel_refl w) (.cells #[.int .i64 k, .int .i64 t, .string s] 37))
  unfold recV
  go_enter Try.func45, Try.ntmps45
  go_wp2_with fail
  generalize w.alloc (.cells #[.int .i64 k, .int .i64 t, .string s] 37) = w1 at *
  generalize hB0 : w.heap.size = b0 at *
  have HB0 := hid' hB0
  clear hB0
  have c0 : w1.cell? ⟨b0, 0, none⟩ = some (.int .i64 k) := by simpa using hb.cell 0
  have c1 : w1.cell? ⟨b0, 1, none⟩ = some (.int .i64 t) := by simpa using hb.cell 1
  have c2 : w1.cell? ⟨b0, 2, none⟩ = some (.string s) := by simpa using hb.cell 2
  have hltb := hb.lt
  obtain ⟨u, hu⟩ : ∃ u, u = strOf (vput (vfold t)) := ⟨_, rfl⟩
  have hus : u.size ≤ 10 := by rw [hu]; exact hv
  have HF := hid' (fun w => ref02_Fold t w ht)
  have HP := hid' (fun w => ref02_Put (vfold t) w hlt)
  have hcv := conv_byteW w1 _ k (bel_drew (bel_refl _))
  have hbs := byteStr_size k
  clear hb hv
  rw [← hu] at HP
  rw [show strOf [UInt8.ofNat ((k, t, s).1 % 256).toNat] = byteStr k from rfl, show strOf (vput (vfold (k, t, s).2.1)) = u from hu.symm] at HE
  clear hu
  have hj1 : (byteStr k).size + u.size ≤ 9223372036854775807 := by omega
  have hj2 : (byteStr k ++ u).size + s.size ≤ 9223372036854775807 := by rw [ByteArray.size_append]; omega
  go_region_held (fun w' => w'.cell? ⟨b0, 0, none⟩ = some (.int .i64 k) ∧ w'.cell? ⟨b0, 1, none⟩ = some (.int .i64 t) ∧ w'.cell? ⟨b0, 2, none⟩ = some (.string s))
    (first | go_keep | exact hcells)
    (first
      | (go_at_call 16; refine (HF.out _).mono ?_; rintro e w' ⟨rfl, rfl⟩)
      | (go_at_call 15; refine (HP.out _).mono ?_; rintro e w2 ⟨rfl, hb2⟩; have hcells := cells_below (by assumption) hb2
         first | (have hcv2 := conv_byteW w1 _ k (bel_then (bel_drew (bel_refl _)) hb2)) | (have hcv2 := conv_byteW w2 _ k (bel_refl _))))
  all_goals
    have hfin : Below b0 w w2 := by
      first
        | exact HB.out.trans ((bel_then (bel_drew (bel_refl w1)) hb2).mono (by omega))
        | exact HB.out.trans ((bel_then (bel_drew (bel_alloc (bel_refl w1) _)) hb2).mono (by omega))
    clear hb2 hcells hcv
    go_wp2
    go_ret
    refine ⟨congrArg Ending.returned (by rw [HE.out]; rfl), ?_⟩
    rw [HB0.out]
    first | exact hfin | exact hfin.alloc (by have := hfin.size; have := HB0.out; omega) _
end Go.Proofs.Ytjdjpljjahnhjaa
