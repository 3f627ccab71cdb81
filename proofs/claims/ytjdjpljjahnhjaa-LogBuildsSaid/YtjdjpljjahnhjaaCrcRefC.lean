
/- What the reference's Seal answers. No condition. -/
import Derived.Test.YtjdjpljjahnhjaaCrcRefB
namespace Go.Proofs.Ytjdjpljjahnhjaa
set_option maxRecDepth 100000
set_option linter.unusedSimpArgs false
open Go.RowKit
set_option linter.unusedVariables false
set_option linter.unusedSimpArgs false

theorem own_blk {w : World} {base g : Nat} {e : TypeId} {cs : Array Value} {n : Nat} {xs : List Value} (h : Blk w g e cs) (hb : base ≤ g) (hx : cs.toList = xs) (hn : n = cs.size) (hm : n ≤ maxLen) : OwnC w base (.slice (some ⟨g, 0, none⟩) n n) n xs := by
  subst hx hn
  refine ⟨by simp, hm, .inr ⟨g, _, rfl, hb, h.lt, Nat.le_refl _, fun j u hj => ?_, fun j h1 h2 => by omega⟩⟩
  rw [h.cell]
  simpa using hj
def sbyte (n k i : Nat) (b : Nat) : Value := if k ≤ i then .int .u8 (b : Int) else .int .u8 0
def scells (n k : Nat) : Array Value := #[sbyte n k 0 (n / 16777216 % 256), sbyte n k 1 (n / 65536 % 256), sbyte n k 2 (n / 256 % 256), sbyte n k 3 (n % 256)]

set_option maxRecDepth 100000 in
theorem ref03_Seal (s : ByteArray) (w : World) (hs : s.size ≤ 1000000) :
    Calls Try.prog 48 #[.string s] w fun e w' => e = .returned (.string (cseal s)) ∧ Below w.heap.size w w' := by
  have hn : crcStr s < 2 ^ 32 := crcStr_lt s
  have hmk := mkn_run (P := Try.prog) 24 5 (.int .u8 0) 1 1 (by kernel_rfl) (by kernel_rfl) 4 (by omega) (by omega)
  have e0 : (Value.int .u8 0).cells = #[Value.int .u8 0] := rfl
  have e1 : madeCells #[Value.int .u8 0] (4 * 1) = scells (crcStr s) 4 := by
    apply Array.ext'
    rw [Nat.mul_one, toList_madeCells_one]
    rfl
  rw [e0, e1] at hmk
  have hmk2 : ∀ w : World, (Instr.makeSlice 24 (.int .i64 4) (.int .i64 4)).run Try.prog w = .ok (.slice (some ⟨w.heap.size, 0, none⟩) 4 4) (w.alloc (.cells (scells (crcStr s) 4) 5)) := hmk
  clear e0 e1 hmk
  have HMK := hid' hmk2
  clear hmk2
  unfold cseal
  go_enter Try.func48, Try.ntmps48
  go_wp2_with fail
  refine (ref03_Sum s w hs).mono ?_
  rintro e w1 ⟨rfl, hb1⟩
  have HN := hid' hn
  have HB1 := hid' hb1
  clear hb1
  generalize hnn : crcStr s = n at *
  have HNN := hid' hnn
  clear hnn
  have HB0 := hid' (Blk.new_ w1 5 (scells n 4))
  go_wp2
  rw [HMK.out]
  go_wp2
  go_loopw [3, 5] (fun v3 v5 wr => ∃ k : Nat, v5 = .int .i64 ((k : Int) - 1) ∧ k ≤ 4 ∧ v3 = .int .u32 ((n / 256 ^ (4 - k) : Nat) : Int) ∧ Blk wr w1.heap.size 5 (scells n k) ∧ Below w.heap.size w wr) (fun _ v5 _ => (intOf v5 + 1).toNat)
  case atStart => exact ⟨4, rfl, by omega, by simp, HB0.out, bel_alloc HB1.out _⟩
  case round =>
    obtain ⟨k, rfl, hk, rfl, hblk, hbel⟩ := hrel
    have HB := hid' hblk
    have HL := hid' hbel
    clear hblk hbel
    by_cases h0 : 0 < k
    · obtain ⟨q, rfl⟩ : ∃ q, k = q + 1 := ⟨k - 1, by omega⟩
      have hq1 : ((q + 1 : Nat) : Int) - 1 = (q : Int) := by omega
      have hq3 : (q : Int) < 4 := by omega
      have hq0 : (0 : Int) ≤ (q : Int) := by omega
      rw [hq1]
      have hcell : wr.cell? ⟨w1.heap.size, q, none⟩ = some (.int .u8 0) := by
        rw [HB.out.cell]
        have : q = 0 ∨ q = 1 ∨ q = 2 ∨ q = 3 := by omega
        rcases this with rfl | rfl | rfl | rfl <;> rfl
      have hfr := HB.out.frozen q
      have HS := hid' (show (scells n (q + 1)).setIfInBounds q (.int .u8 (((n / 256 ^ (4 - (q + 1)) % 256 : Nat)) : Int)) = scells n q by
        have : q = 0 ∨ q = 1 ∨ q = 2 ∨ q = 3 := by omega
        rcases this with rfl | rfl | rfl | rfl <;> simp [scells, sbyte])
      have HD := hid' (show n / 256 ^ (4 - (q + 1)) / 256 = n / 256 ^ (4 - q) by
        rw [show 4 - q = (4 - (q + 1)) + 1 by omega, Nat.pow_succ, Nat.div_div_eq_div_mul])
      have hzb : n / 256 ^ (4 - (q + 1)) ≤ n := Nat.div_le_self _ _
      have hzn : n < 4294967296 := HN.out
      generalize n / 256 ^ (4 - (q + 1)) = z at *
      go_wp2
      go_roundw
      case rel =>
        refine ⟨q, rfl, by omega, by rw [← HD.out] <;> rfl, by rw [← HS.out]; exact HB.out.set q _, bel_set HL.out HB1.out.size _⟩
      case measure => simp [intOf] <;> omega
    · have : k = 0 := by omega
      subst this
      have hown := own_blk (base := 0) HB.out (Nat.zero_le _) (xs := (cbytes n).map bcell) (by
        unfold scells sbyte cbytes
        have hn := HN.out
        simp [bcell_ofNat (show n / 16777216 < 256 by omega), bcell_ofNat (show n / 65536 % 256 < 256 by omega), bcell_ofNat (show n / 256 % 256 < 256 by omega), bcell_ofNat (show n % 256 < 256 by omega)]
        omega) (n := 4) rfl (by unfold maxLen; omega)
      have hconv := hown.string (P := Try.prog) 24 9 5 (by kernel_rfl) (by kernel_rfl) (by kernel_rfl)
      have HC := hid' hconv
      have hz : (strOf (cbytes n)).size = 4 := rfl
      clear hconv hown
      generalize hte : strOf (cbytes n) = t at HC hz
      have HTE := hid' hte
      clear hte
      have hz2 : s.size + t.size ≤ 9223372036854775807 := by omega
      go_wp2
      rw [HC.out]
      go_wp2
      go_ret
      exact ⟨by rw [HNN.out, HTE.out] <;> rfl, HL.out⟩
end Go.Proofs.Ytjdjpljjahnhjaa
