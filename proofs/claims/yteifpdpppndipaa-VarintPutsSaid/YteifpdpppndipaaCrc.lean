
/- What the functions of crc answer. No condition. -/
import Derived.Test.YteifpdpppndipaaProg
import Derived.Test.YteifpdpppndipaaOwnC
import Derived.Test.YteifpdpppndipaaCrcPure
import Derived.Test.YteifpdpppndipaaVarint
import Derived.Test.YteifpdpppndipaaVarGet
import Derived.WalkSpells
import Derived.WalkLawsBesides
import Derived.Deep.RegionHeld3
import Derived.BigRegion
import Derived.Laws.BitsAllLaws
namespace Go.Proofs.Yteifpdpppndipaa
set_option maxRecDepth 100000
set_option linter.unusedSimpArgs false
open Go.RowKit
set_option linter.unusedVariables false
set_option linter.unusedSimpArgs false

theorem u32_wrap' (n : Int) : IntKind.u32.wrap n = n % 4294967296 := by simp [IntKind.wrap, IntKind.bits, IntKind.signed]
theorem crc_bits (x : Nat) (h : x < 2 ^ 32) : bits .xor .u32 ((x : Int) / 2) (bits .and .u32 3988292384 (IntKind.u32.wrap (-(bits .and .u32 (x : Int) 1)))) = (cstep x : Int) := by
  have h1 : bits .and .u32 (x : Int) 1 = ((x % 2 : Nat) : Int) := by
    have := u32_and_nat x 1 (by omega) (by omega)
    rw [nat_mask1] at this
    exact this
  rw [h1, u32_wrap', show (x : Int) / 2 = ((x / 2 : Nat) : Int) by omega]
  unfold cstep
  by_cases ho : x % 2 = 1
  · rw [if_pos ho, ho]
    have h2 : bits .and .u32 3988292384 (-((1 : Nat) : Int) % 4294967296) = ((CP : Nat) : Int) := by decide
    rw [h2]
    exact u32_xor_nat _ _ (by omega) (by decide)
  · rw [if_neg ho, show x % 2 = 0 by omega]
    have h2 : bits .and .u32 3988292384 (-((0 : Nat) : Int) % 4294967296) = ((0 : Nat) : Int) := by decide
    rw [h2]
    exact u32_xor_nat _ _ (by omega) (by omega)
theorem csteps_snoc (k : Nat) : ∀ x, csteps (k + 1) x = cstep (csteps k x) := by
  intro x; rw [csteps_add k 1]; rfl

def tabOf (k : Nat) : Array Value := ((List.range 256).map fun i => Value.int .u32 (if i < k then (ctab i : Int) else 0)).toArray
theorem tabOf_set {k : Nat} (h : k < 256) : (tabOf k).setIfInBounds k (.int .u32 (ctab k)) = tabOf (k + 1) := by
  unfold tabOf
  rw [List.setIfInBounds_toArray]
  congr 1
  apply List.ext_getElem (by simp)
  intro i h1 h2
  simp only [List.length_set, List.length_map, List.length_range] at h1
  rw [List.getElem_set]
  by_cases hi : k = i
  · subst hi; simp
  · rw [if_neg hi]
    simp only [List.getElem_map, List.getElem_range]
    have : (i < k) = (i < k + 1) := by apply propext; omega
    simp only [this]
theorem tabOf_at {k i : Nat} (h : i < 256) : (tabOf k)[i]? = some (.int .u32 (if i < k then (ctab i : Int) else 0)) := by
  unfold tabOf
  simp [h]
theorem tabOf_size (k : Nat) : (tabOf k).size = 256 := by simp [tabOf]

theorem zero_tab (w : World) : (zeroValue 63).run Try.prog w = .ok (.agg (tabOf 0)) w := by kernel_rfl
set_option maxRecDepth 100000 in
theorem crc_New (w : World) :
    Calls Try.prog 20 #[] w fun e w' => ∃ g, e = .returned (.pointer (some ⟨g, 0, none⟩)) ∧ w.heap.size ≤ g ∧ Blk w' g 63 (tabOf 256) ∧ Below w.heap.size w w' := by
  have hz := zero_tab w
  go_enter Try.func20, Try.ntmps20
  go_wp2
  clear hz
  go_loopw [2, 3, 6] (fun v2 v3 v6 wr => ∃ k : Nat, v6 = .int .i64 k ∧ k ≤ 256 ∧ Blk wr w.heap.size 63 (tabOf k) ∧ Below w.heap.size w wr) (fun _ _ v6 _ => (256 - intOf v6).toNat)
  case atStart => exact ⟨0, rfl, by omega, Blk.new_ w 63 (tabOf 0), (by repeat (first | assumption | apply bel_alloc | apply bel_drewN | apply bel_drew | exact bel_refl _))⟩
  case round =>
    obtain ⟨k, rfl, hk, hblk, hbel⟩ := hrel
    have HBK := hid' hblk
    have HBL := hid' hbel
    by_cases hlt : k < 256
    · clear hblk hbel
      go_wp2
      go_loop [3, 11] (fun v3 v11 => ∃ j : Nat, v3 = .int .u32 (csteps j k) ∧ v11 = .int .i64 j ∧ j ≤ 8) (fun _ v11 => (8 - intOf v11).toNat)
      case atStart => exact ⟨0, rfl, rfl, by omega⟩
      case round =>
        obtain ⟨j, rfl, rfl, hj⟩ := hrel
        have hc := csteps_lt j (x := k) (by omega)
        have hb := crc_bits _ hc
        rw [← csteps_snoc, u32_wrap'] at hb
        by_cases hj8 : j < 8
        · go_wp2
          go_round
          case rel => exact ⟨j + 1, by simp [hb], by go_num, by omega⟩
          case measure => simp [intOf]; omega
        · have hj8' : j = 8 := by omega
          subst hj8'
          have hcell := (HBK.out.cell k).trans (by rw [tabOf_at (by omega)])
          have hfr := HBK.out.frozen k
          go_wp2
          refine ⟨⟨k + 1, by go_num, by omega, (HBK.out.set k _).cast (tabOf_set hlt), bel_set HBL.out (Nat.le_refl _) _⟩, ?_⟩
          simp [intOf]; omega
    · have : k = 256 := by omega
      subst this
      go_wp2
      go_ret
      exact ⟨_, rfl, Nat.le_refl _, HBK.out, HBL.out⟩

def crcStr (s : ByteArray) : Nat := csum (bl s)
def cregAt (s : ByteArray) (k : Nat) : Nat := creg ((bl s).take k)
theorem cregAt_succ (s : ByteArray) (k : Nat) (h : k < s.size) : cregAt s (k + 1) = ctab ((cregAt s k ^^^ (s[k]).toNat) % 256) ^^^ (cregAt s k / 256) := by
  have hb : (bl s).take (k + 1) = (bl s).take k ++ [s[k]] := by
    refine take_snoc' ?_
    unfold bl
    rw [Array.getElem?_toList, Array.getElem?_eq_getElem (by exact h)]
    rfl
  unfold cregAt
  rw [hb, creg_snoc]
theorem cregAt_lt (s : ByteArray) (k : Nat) : cregAt s k < 2 ^ 32 := creg_lt _
theorem cregAt_all (s : ByteArray) : CM ^^^ cregAt s s.size = crcStr s := by
  unfold cregAt crcStr csum
  rw [List.take_of_length_le (by rw [bl_len]; exact Nat.le_refl _)]
theorem u8_low (x : Nat) (c : UInt8) : bits .xor .u8 ((x : Int) % 256) (c.toNat : Int) = (((x ^^^ c.toNat) % 256 : Nat) : Int) := by
  have hc := c.toNat_lt
  have := u8_xor_nat (x % 256) c.toNat (by omega) hc
  rw [show ((x : Int) % 256) = ((x % 256 : Nat) : Int) by omega, this]
  congr 1
  apply Nat.eq_of_testBit_eq
  intro j
  rw [Nat.testBit_xor, show (256 : Nat) = 2 ^ 8 from rfl, Nat.testBit_mod_two_pow, Nat.testBit_mod_two_pow, Nat.testBit_xor]
  by_cases h : j < 8
  · simp [h]
  · have : c.toNat.testBit j = false := Nat.testBit_lt_two_pow (Nat.lt_of_lt_of_le hc (Nat.pow_le_pow_right (by omega) (by omega)))
    simp [h, this]

set_option maxRecDepth 100000 in
theorem crc_Sum (g : Nat) (s : ByteArray) (w : World) (hs : s.size ≤ maxLen) (hg : Blk w g 63 (tabOf 256)) :
    Calls Try.prog 25 #[.pointer (some ⟨g, 0, none⟩), .string s] w fun e w' => e = .returned (.int .u32 (crcStr s)) ∧ Dr w w' := by
  unfold maxLen at hs
  have HG := hid' hg
  clear hg
  go_enter Try.func25, Try.ntmps25
  go_wp2
  go_loopw [5, 6, 9] (fun v5 v6 v9 wr => ∃ k : Nat, v9 = .int .i64 k ∧ v5 = .int .u32 (cregAt s k) ∧ k ≤ s.size ∧ Dr w wr) (fun _ _ v9 _ => (s.size - intOf v9).toNat)
  case atStart => exact ⟨0, rfl, by unfold cregAt; rfl, by omega, (by repeat (first | exact Dr.refl _ | apply Dr.step | apply Dr.stepd))⟩
  case round =>
    obtain ⟨k, rfl, rfl, hk, hdr⟩ := hrel
    have hx := cregAt_lt s k
    by_cases hlt : k < s.size
    · have H1 := u8_low (cregAt s k) s[k]
      have hlow : (cregAt s k ^^^ (s[k]).toNat) % 256 < 256 := by omega
      have hnx := cregAt_succ s k hlt
      have HX : bits .xor .u32 (ctab ((cregAt s k ^^^ (s[k]).toNat) % 256) : Int) ((cregAt s k : Int) / 256) = (cregAt s (k + 1) : Int) := by
        rw [hnx, show (cregAt s k : Int) / 256 = ((cregAt s k / 256 : Nat) : Int) by omega]
        exact u32_xor_nat _ _ (csteps_lt 8 (by omega)) (by omega)
      have hcell : wr.cell? ⟨g, (cregAt s k ^^^ (s[k]).toNat) % 256, none⟩ = some (.int .u32 (ctab ((cregAt s k ^^^ (s[k]).toNat) % 256))) := by
        have hB : Blk wr g 63 (tabOf 256) := HG.out.below hdr.below
        rw [hB.cell, tabOf_at hlow, if_pos hlow]
      have HDR := hid' hdr
      clear hdr hnx
      generalize hc : s[k] = c at *
      generalize hy : (cregAt s k ^^^ c.toNat) % 256 = y at *
      have hy1 : (y : Int) < 256 := by omega
      have hy0 : (0 : Int) ≤ (y : Int) := by omega
      clear hy hlow
      go_wp2
      go_region
      go_wp2
      go_roundw
      case rel => exact ⟨k + 1, by go_num, by simp [HX], by omega, HDR.out.stepd⟩
      case measure => simp [intOf]; omega
    · have hk' : k = s.size := by omega
      subst hk'
      have HX : bits .xor .u32 IntKind.u32.max (cregAt s s.size : Int) = (crcStr s : Int) := by
        have := u32_xor_nat CM (cregAt s s.size) (by decide) (by omega)
        rw [cregAt_all] at this
        exact this
      go_wp2
      go_ret
      exact ⟨rfl, hdr⟩

/-- The four bytes of a sum, the highest first. -/
def cbytes (n : Nat) : List UInt8 := [UInt8.ofNat (n / 16777216), UInt8.ofNat (n / 65536 % 256), UInt8.ofNat (n / 256 % 256), UInt8.ofNat (n % 256)]
def cseal (s : ByteArray) : ByteArray := s ++ strOf (cbytes (crcStr s))
theorem crcStr_lt (s : ByteArray) : crcStr s < 2 ^ 32 := Nat.xor_lt_two_pow (by decide) (creg_lt _)
theorem own_four (w : World) (e : TypeId) (a b c d : UInt8) : OwnC (w.alloc (.cells #[bcell a, bcell b, bcell c, bcell d] e)) w.heap.size (.slice (some ⟨w.heap.size, 0, none⟩) 4 4) 4 ([a, b, c, d].map bcell) :=
  ⟨rfl, by unfold maxLen; omega, .inr ⟨w.heap.size, 4, rfl, Nat.le_refl _, by simp, Nat.le_refl _, fun j u hj => by
    rw [(Blk.new_ w e #[bcell a, bcell b, bcell c, bcell d]).cell]
    simpa using hj, fun j h1 h2 => by omega⟩⟩
set_option maxRecDepth 100000 in
theorem crc_Seal (g : Nat) (s : ByteArray) (w : World) (hs : s.size ≤ 1000000) (hg : Blk w g 63 (tabOf 256)) :
    Calls Try.prog 21 #[.pointer (some ⟨g, 0, none⟩), .string s] w fun e w' => e = .returned (.string (cseal s)) ∧ Below w.heap.size w w' := by
  unfold cseal
  have hn := crcStr_lt s
  have HG := hid' hg
  clear hg
  go_enter Try.func21, Try.ntmps21
  go_wp2_with fail
  refine (crc_Sum g s w (by unfold maxLen; omega) HG.out).mono ?_
  rintro e w1 ⟨rfl, hdr⟩
  have h4 := own_four w1 5 (UInt8.ofNat (crcStr s / 16777216)) (UInt8.ofNat (crcStr s / 65536 % 256)) (UInt8.ofNat (crcStr s / 256 % 256)) (UInt8.ofNat (crcStr s % 256))
  have hconv := h4.string (P := Try.prog) 24 9 5 (by kernel_rfl) (by kernel_rfl) (by kernel_rfl)
  rw [bcell_ofNat (by omega), bcell_ofNat (by omega), bcell_ofNat (by omega), bcell_ofNat (by omega)] at hconv
  rw [show ((crcStr s / 16777216 : Nat) : Int) = (crcStr s : Int) / 16777216 by omega, show ((crcStr s / 65536 % 256 : Nat) : Int) = (crcStr s : Int) / 65536 % 256 by omega,
    show ((crcStr s / 256 % 256 : Nat) : Int) = (crcStr s : Int) / 256 % 256 by omega, show ((crcStr s % 256 : Nat) : Int) = (crcStr s : Int) % 256 by omega] at hconv
  have hz : (strOf (cbytes (crcStr s))).size = 4 := rfl
  have HC := hid' hconv
  change Hid (_ = Result.ok (Value.string (strOf (cbytes (crcStr s)))) _) at HC
  clear hconv h4
  generalize hte : strOf (cbytes (crcStr s)) = t at HC hz
  have hz2 : s.size + t.size ≤ 9223372036854775807 := by omega
  go_wp2
  rw [HC.out]
  go_wp2
  go_ret
  exact ⟨by rw [hte] <;> rfl, bel_alloc hdr.below _⟩

/-! ### sealed bytes opened -/
theorem str_ext {a b : ByteArray} (h : a.toList = b.toList) : a = b := by
  rw [ByteArray.toList_eq, ByteArray.toList_eq] at h
  exact ByteArray.ext (Array.ext' h)
def copen (s : ByteArray) : Option ByteArray := if s.size < 4 then none else if cseal (s.extract 0 (s.size - 4)) = s then some (s.extract 0 (s.size - 4)) else none
theorem extract_size (s : ByteArray) (k : Nat) (h : k ≤ s.size) : (s.extract 0 k).size = k := by simp; omega
def copS (s : ByteArray) : Value := match copen s with | some x => .string x | none => .string ⟨#[]⟩
def copB (s : ByteArray) : Bool := (copen s).isSome
set_option maxRecDepth 100000 in
theorem crc_Open (g : Nat) (s : ByteArray) (w : World) (hs : s.size ≤ 1000000) (hg : Blk w g 63 (tabOf 256)) :
    Calls Try.prog 27 #[.pointer (some ⟨g, 0, none⟩), .string s] w fun e w' => e = .returned (.tuple #[copS s, .bool (copB s)]) ∧ Below w.heap.size w w' := by
  have HG := hid' hg
  clear hg
  by_cases h4 : s.size < 4
  · have h1 : copS s = .string ⟨#[]⟩ := by unfold copS copen; rw [if_pos h4]
    have h2 : copB s = false := by unfold copB copen; rw [if_pos h4]; rfl
    rw [h1, h2]
    go_enter Try.func27, Try.ntmps27
    go_wp2
    go_ret2
    exact ⟨rfl, (by repeat (first | assumption | apply bel_alloc | apply bel_drewN | apply bel_drew | exact bel_refl _))⟩
  · have hz := extract_size s (s.size - 4) (by omega)
    by_cases he : cseal (s.extract 0 (s.size - 4)) = s
    · have h1 : copS s = .string (s.extract 0 (s.size - 4)) := by unfold copS copen; rw [if_neg h4, if_pos he]
      have h2 : copB s = true := by unfold copB copen; rw [if_neg h4, if_pos he]; rfl
      rw [h1, h2]
      have HE := hid' he
      clear he h1 h2
      go_enter Try.func27, Try.ntmps27
      go_wp2_with fail
      refine (crc_Seal g (s.extract 0 (s.size - 4)) w (by omega) HG.out).mono ?_
      rintro e w1 ⟨rfl, hb⟩
      rw [HE.out]
      go_wp2
      go_ret2
      exact ⟨rfl, hb⟩
    · have h1 : copS s = .string ⟨#[]⟩ := by unfold copS copen; rw [if_neg h4, if_neg he]
      have h2 : copB s = false := by unfold copB copen; rw [if_neg h4, if_neg he]; rfl
      rw [h1, h2]
      have HE := hid' (show (cseal (s.extract 0 (s.size - 4))).toList ≠ s.toList from fun h => he (str_ext h))
      clear he h1 h2
      go_enter Try.func27, Try.ntmps27
      go_wp2_with fail
      refine (crc_Seal g (s.extract 0 (s.size - 4)) w (by omega) HG.out).mono ?_
      rintro e w1 ⟨rfl, hb⟩
      generalize cseal (s.extract 0 (s.size - 4)) = t at *
      have hne : (t.toList == s.toList) = false := by rw [beq_eq_false_iff_ne]; exact HE.out
      go_wp2
      go_ret2
      exact ⟨rfl, hb⟩
end Go.Proofs.Yteifpdpppndipaa
