
/- Numbers to the base 16 in words (strconv.FormatInt), walked. No condition but one cell of Go's own table. -/
import Derived.Test.YtioaijjmialdoaaDoorProg
import Derived.Laws.BitsAllLaws
import Derived.Test.YtioaijjmialdoaaDoorQuotePure
import Derived.Test.YtioaijjmialdoaaDoorOwnC
namespace Go.Proofs.YtioaijjmialdoaaDoor
set_option maxRecDepth 100000
set_option linter.unusedSimpArgs false
open Go.RowKit
set_option linter.unusedVariables false
set_option linter.unusedSimpArgs false

def TzT (w : World) : Prop := w.cell? ⟨7, 15, none⟩ = some (.int .u8 4)
theorem TzT.below {w w' : World} (h : TzT w) (hb : Below w.heap.size w w') : TzT w' := (hb.cell (World.block_lt_of_cell? w _ h)).trans h
theorem tz64 (w : World) (hT : TzT w) : Calls Tryd.prog 87 #[.int .u64 16] w fun e w' => e = .returned (.int .i64 4) ∧ w = w' := by
  have h : w.cell? ⟨7, 15, none⟩ = some (.int .u8 4) := hT
  have e : IntKind.u64.wrap (bits BinOp.and IntKind.u64 16 (IntKind.u64.wrap (-16)) * 285870213051353865) / 288230376151711744 = 15 := by kernel_rfl
  clear hT
  go_enter Tryd.func87, Tryd.ntmps87
  go_wp2
  go_ret
  exact ⟨rfl, rfl⟩
theorem tz (w : World) (hT : TzT w) : Calls Tryd.prog 85 #[.int .u64 16] w fun e w' => e = .returned (.int .i64 4) ∧ w = w' := by
  have HT := hid' hT
  clear hT
  go_enter Tryd.func85, Tryd.ntmps85
  go_wp2_with (go_at_call 87; refine (tz64 _ HT.out).mono ?_; rintro e w' ⟨rfl, rfl⟩)
  go_ret
  exact ⟨rfl, rfl⟩
theorem pow2 (w : World) : Calls Tryd.prog 84 #[.int .i64 16] w fun e w' => e = .returned (.bool true) ∧ w = w' := by
  go_enter Tryd.func84, Tryd.ntmps84
  go_wp2
  go_ret
  exact ⟨rfl, rfl⟩
def Z65 : Array Value := Array.replicate 65 (.int .u8 0)
def dgs : ByteArray := ⟨#[48, 49, 50, 51, 52, 53, 54, 55, 56, 57, 97, 98, 99, 100, 101, 102, 103, 104, 105, 106, 107, 108, 109, 110, 111, 112, 113, 114, 115, 116, 117, 118, 119, 120, 121, 122]⟩
theorem dgs_at (k : Nat) (h : k < 16) : ((⟨#[48, 49, 50, 51, 52, 53, 54, 55, 56, 57, 97, 98, 99, 100, 101, 102, 103, 104, 105, 106, 107, 108, 109, 110, 111, 112, 113, 114, 115, 116, 117, 118, 119, 120, 121, 122]⟩ : ByteArray)[k]'(by show k < 36; omega)).toNat = (hexD k).toNat := by
  have : ∀ k : Fin 16, ((⟨#[48, 49, 50, 51, 52, 53, 54, 55, 56, 57, 97, 98, 99, 100, 101, 102, 103, 104, 105, 106, 107, 108, 109, 110, 111, 112, 113, 114, 115, 116, 117, 118, 119, 120, 121, 122]⟩ : ByteArray)[k.val]'(Nat.lt_of_lt_of_le k.isLt (by decide))).toNat = (hexD k.val).toNat := by decide
  exact this ⟨k, h⟩
theorem and15 (u : Nat) (h : u < 18446744073709551616) : bits .and .u64 (u : Int) 15 = ((u % 16 : Nat) : Int) := by
  have := u64_and_nat u 15 h (by omega)
  rw [show (15 : Nat) = 2 ^ 4 - 1 from rfl, Nat.and_two_pow_sub_one_eq_mod] at this
  exact this
theorem slice65 (b i : Nat) (h : i < 65) (W : World) : (Instr.sliceAt 135 (.pointer (some ⟨b, 0, none⟩)) (some (.int .i64 (i : Int))) none none).run Tryd.prog W = .ok (.slice (some ⟨b, i, none⟩) (65 - i) (65 - i)) W := by
  have ha : Tryd.prog.arrayLen 135 = 65 := by kernel_rfl
  have he : Tryd.prog.elem 135 = 5 := by kernel_rfl
  have hs : (sizeOf 5).run Tryd.prog W = .ok 1 W := by kernel_rfl
  rw [run_sliceAt_array_l W 135 ⟨b, 0, none⟩ (by kernel_rfl) .i64 (i : Int) (by omega) (by rw [ha]; omega), he, hs, ha]
  have hne : ¬ (65 = i) := by omega
  simp only [Result.andThen, slicedAt, Int.toNat_natCast, if_neg hne, Nat.mul_one]
  congr 3
  unfold Addr.add
  split
  · rename_i h0; subst h0; rfl
  · simp
/-- digits that stand in an array from a place on -/
def DigA (cs : Array Value) (i : Nat) (low : List UInt8) : Prop := cs.size = 65 ∧ ∀ j c, low[j]? = some c → cs[i + j]? = some (bcell c)
theorem DigA.nil : DigA Z65 65 [] := ⟨by simp [Z65], fun j c h => by simp at h⟩
theorem DigA.cons {cs : Array Value} {i : Nat} {low : List UInt8} (h : DigA cs (i + 1) low) (hi : i < 65) (c : UInt8) : DigA (cs.setIfInBounds i (bcell c)) i (c :: low) := by
  refine ⟨by rw [Array.size_setIfInBounds]; exact h.1, fun j d hj => ?_⟩
  cases j with
  | zero =>
    simp at hj; subst hj
    rw [Nat.add_zero, Array.getElem?_setIfInBounds_self_of_lt (by rw [h.1]; exact hi)]
  | succ j =>
    rw [Array.getElem?_setIfInBounds_ne (by omega)]
    have := h.2 j d (by simpa using hj)
    rwa [show i + 1 + j = i + (j + 1) by omega] at this
set_option maxHeartbeats 2000000 in
theorem fmtBits (n : Nat) (w : World) (hn : n < 4294967296) (hT : TzT w) :
    Calls Tryd.prog 77 #[.slice none 0 0, .int .u64 (n : Int), .int .i64 16, .bool false, .bool false] w fun e w' => e = .returned (.tuple #[.slice none 0 0, .string (strOf (hexL n))]) ∧ Below w.heap.size w w' := by
  have hz : (zeroValue 135).run Tryd.prog w = .ok (.agg Z65) w := by kernel_rfl
  have HT := hid' (hT.below (bel_alloc (bel_refl w) (.cells Z65 135)))
  clear hT
  go_enter Tryd.func77, Tryd.ntmps77
  go_wp2_with (first | (go_at_call 84; refine (pow2 _).mono ?_; rintro e w' ⟨rfl, rfl⟩) | (go_at_call 85; refine (tz _ HT.out).mono ?_; rintro e w' ⟨rfl, rfl⟩))
  have hB0 := hid' (Blk.new_ w 135 Z65)
  have hL0 := hid' (bel_alloc (bel_refl w) (.cells Z65 135))
  go_loopw [1, 13] (fun v1 v13 wr => ∃ (u i : Nat) (low : List UInt8) (cs : Array Value), v1 = .int .u64 (u : Int) ∧ v13 = .int .i64 (i : Int) ∧ hexL u ++ low = hexL n ∧ i + low.length = 65 ∧ u ≤ n ∧ Blk wr w.heap.size 135 cs ∧ DigA cs i low ∧ Below w.heap.size w wr) (fun v1 _ _ => (intOf v1).toNat)
  case atStart => exact ⟨n, 65, [], Z65, rfl, rfl, List.append_nil _, rfl, Nat.le_refl _, hB0.out, DigA.nil, hL0.out⟩
  case round =>
    obtain ⟨u, i, low, cs, rfl, rfl, hex, hil, hun, hB, hD, hL⟩ := hrel
    have hlen := congrArg List.length hex
    rw [List.length_append] at hlen
    have hp := hexL_pos u
    have h8 := hexL_len 7 n (by omega)
    have hib : 58 ≤ i ∧ i ≤ 65 := by omega
    have HEX := hid' hex
    have HB := hid' hB
    have HD := hid' hD
    have HL := hid' hL
    have f0 := hB.frozen (i - 1)
    clear hex hlen hB hD hL
    obtain ⟨i, rfl⟩ : ∃ k, i = k + 1 := ⟨i - 1, by omega⟩
    rw [Nat.add_sub_cancel] at f0
    have i1 : ((i + 1 : Nat) : Int) - 1 = (i : Int) := by omega
    obtain ⟨cv, hcv⟩ : ∃ cv, cs[i]? = some cv := ⟨cs[i]'(by rw [HD.out.1]; omega), Array.getElem?_eq_getElem (by rw [HD.out.1]; omega)⟩
    have d0 : wr.cell? ⟨w.heap.size, i, none⟩ = some cv := by rw [HB.out.cell, hcv]
    clear hcv
    by_cases h16 : 16 ≤ u
    · have hdg := dgs_at (u % 16) (by omega)
      have HDG := hid' hdg
      have HHX := hid' (hexL_ge (n := u) (by omega))
      have hand := and15 u (by omega)
      clear hdg
      go_wp2
      go_roundw
      case rel =>
        refine ⟨u / 16, i, hexD (u % 16) :: low, cs.setIfInBounds i (bcell (hexD (u % 16))), by go_num, by go_num, ?_, by simp only [List.length_cons]; omega, by omega, ?_, HD.out.cons (by omega) _, bel_set HL.out (by show w.heap.size ≤ w.heap.size; omega) _⟩
        · rw [← HEX.out, HHX.out]; simp
        · have := HB.out.set i (bcell (hexD (u % 16)))
          unfold bcell at this ⊢
          rw [← HDG.out] at this ⊢
          exact this
      case measure => simp [intOf]; omega
    · have hdg := dgs_at u (by omega)
      have HDG := hid' hdg
      have HHX := hid' (hexL_lt (n := u) (by omega))
      have hB2 := HB.out.set i (bcell (hexD u))
      have hD2 := HD.out.cons (by omega) (hexD u)
      have hex2 : hexD u :: low = hexL n := by rw [← HEX.out, HHX.out]; rfl
      have hln : (hexL n).length = 65 - i := by rw [← hex2, List.length_cons]; omega
      have hcv2 := run_convert_bytes_arg (P := Tryd.prog) (wr.setCell ⟨w.heap.size, i, none⟩ (bcell (hexD u))) 72 5 (by kernel_rfl) (by kernel_rfl) w.heap.size i (65 - i) (65 - i) ((hexL n).map fun b => (b.toNat : Int)) (by simpa using hln)
        (fun j hj => by
          rw [hB2.cell]
          have hlj : j < (hexL n).length := by omega
          have := hD2.2 j (hexL n)[j] (by rw [hex2]; exact List.getElem?_eq_getElem hlj)
          rw [this]
          unfold bcell
          simp [List.getD_eq_getElem?_getD, List.getElem?_eq_getElem hlj]) 9 (by kernel_rfl)
      have hstr : strOfNums ((hexL n).map fun b => (b.toNat : Int)) = strOf (hexL n) := by
        unfold strOfNums strOf
        rw [List.map_map]
        congr 2
        conv => rhs; rw [← List.map_id (hexL n)]
        apply List.map_congr_left
        intro b _
        simp
      rw [hstr] at hcv2
      unfold bcell at hcv2
      rw [← HDG.out] at hcv2
      have hsl := slice65 w.heap.size i (by omega)
      clear hB2 hD2 hex2 hln hstr hdg
      go_wp2
      go_ret2
      exact ⟨rfl, bel_set HL.out (by show w.heap.size ≤ w.heap.size; omega) _⟩
theorem iFormat16 (n : Nat) (w : World) (hn : n < 4294967296) (hT : TzT w) :
    Calls Tryd.prog 64 #[.int .i64 (n : Int), .int .i64 16] w fun e w' => e = .returned (.string (strOf (hexL n))) ∧ Below w.heap.size w w' := by
  have h1 : decide ((n : Int) < 0) = false := by rw [decide_eq_false_iff_not]; omega
  have HF := hid' (fmtBits n w hn hT)
  clear hT
  go_enter Tryd.func64, Tryd.ntmps64
  go_wp2_with (go_at_call 77; refine HF.out.mono ?_; rintro e w' ⟨rfl, hB⟩)
  go_ret
  exact ⟨rfl, hB⟩
theorem format16 (n : Nat) (w : World) (hn : n < 4294967296) (hT : TzT w) :
    Calls Tryd.prog 47 #[.int .i64 (n : Int), .int .i64 16] w fun e w' => e = .returned (.string (strOf (hexL n))) ∧ Below w.heap.size w w' := by
  have HF := hid' (iFormat16 n w hn hT)
  clear hT
  go_enter Tryd.func47, Tryd.ntmps47
  go_wp2_with (go_at_call 64; refine HF.out.mono ?_; rintro e w' ⟨rfl, hB⟩)
  go_ret
  exact ⟨rfl, hB⟩
end Go.Proofs.YtioaijjmialdoaaDoor
