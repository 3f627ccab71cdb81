
/- What the reference's Sum and Seal answer. No condition. -/
import Derived.Test.YtjdjpljjahnhjaaCrcRef
namespace Go.Proofs.Ytjdjpljjahnhjaa
set_option maxRecDepth 100000
set_option linter.unusedSimpArgs false
open Go.RowKit
set_option linter.unusedVariables false
set_option linter.unusedSimpArgs false

def f1 (l : List UInt8) (i : Nat) : Nat → Bool := fun j => if j < i then bitAt l j else false
def f2 (l : List UInt8) (i : Nat) : Nat → Bool := fun j => if j < i then !(bitAt l j) else bitAt l j
theorem f1_zero (l : List UInt8) : f1 l 0 = fun _ => false := by funext j; simp [f1]
theorem f1_succ (l : List UInt8) (i : Nat) : updB (f1 l i) i (bitAt l i) = f1 l (i + 1) := by
  funext j; unfold updB f1
  by_cases h : j = i
  · subst h; simp
  · rw [if_neg h]
    have : (j < i) = (j < i + 1) := by apply propext; omega
    simp only [this]
theorem f2_zero (l : List UInt8) : f1 l (8 * l.length) = f2 l 0 := by
  funext j; unfold f1 f2
  by_cases h : j < 8 * l.length
  · simp [h]
  · simp [h, bitAt_out l j (by omega)]
theorem f2_succ (l : List UInt8) (i : Nat) : updB (f2 l i) i (!(bitAt l i)) = f2 l (i + 1) := by
  funext j; unfold updB f2
  by_cases h : j = i
  · subst h; simp
  · rw [if_neg h]
    have : (j < i) = (j < i + 1) := by apply propext; omega
    simp only [this]
theorem f2_win (l : List UInt8) : win l 0 (f2 l 32) := win_start l _ fun j => rfl
theorem not_nat (b : Bool) : (1 : Int) - (b.toNat : Int) = ((!b).toNat : Int) := by cases b <;> rfl
theorem xor_nat2 (a b : Bool) : ((a.toNat : Int) + (b.toNat : Int)) % 2 = ((a ^^ b).toNat : Int) := by cases a <;> cases b <;> rfl
theorem down_step (x k : Nat) : x / 2 ^ (k + 1) * 2 + (x.testBit k).toNat = x / 2 ^ k := by
  rw [← bit_last, ← bit_next]; omega
theorem csum_bit (l : List UInt8) (k : Nat) (h : k < 32) : (csum l).testBit k = !((creg l).testBit k) := by
  unfold csum
  rw [Nat.testBit_xor]
  have hc : CM.testBit k = decide (k < 32) := by
    have : CM = 2 ^ 32 - 1 := rfl
    rw [this, Nat.testBit_two_pow_sub_one]
  rw [hc]; simp [h]

set_option maxRecDepth 100000 in
set_option maxHeartbeats 4000000 in
theorem ref03_Sum (s : ByteArray) (w : World) (hs : s.size ≤ 1000000) :
    Calls Try.prog 54 #[.string s] w fun e w' => e = .returned (.int .u32 (crcStr s : Int)) ∧ Below w.heap.size w w' := by
  obtain ⟨N, hN⟩ : ∃ N, N = 8 * s.size := ⟨_, rfl⟩
  obtain ⟨M, hM⟩ : ∃ M, M = N + 32 := ⟨_, rfl⟩
  have h8 : (8 : Int) * (s.size : Int) = (N : Int) := by omega
  have h32 : (N : Int) + 32 = (M : Int) := by omega
  have hmk := mkn_run (P := Try.prog) 60 3 (.int .i64 0) 1 8 (by kernel_rfl) (by kernel_rfl) M (by omega) (by omega)
  have e0 : (Value.int .i64 0).cells = #[Value.int .i64 0] := rfl
  rw [e0, Nat.mul_one, bcells_made] at hmk
  have HB0 := hid' (Blk.new_ w 3 (bcells (fun _ => false) M))
  have h8h := hid' h8
  have h32h := hid' h32
  have hmk2 := hid' hmk
  clear h8 h32 e0 hmk
  go_enter Try.func54, Try.ntmps54
  have HN := hid' hN
  have hM1 : N + 32 ≤ M := by omega
  have hM2 : M ≤ N + 32 := by omega
  have hNb : N ≤ 8000000 := by omega
  clear hN hM
  go_wp2
  rw [h8h.out, h32h.out, hmk2.out]
  go_wp2
  go_loopw [5] (fun v5 wr => ∃ i : Nat, v5 = .int .i64 i ∧ i ≤ N ∧ Blk wr w.heap.size 3 (bcells (f1 (bl s) i) M) ∧ Below w.heap.size w wr) (fun v5 _ => (N - intOf v5).toNat)
  case atStart => exact ⟨0, rfl, by omega, by rw [f1_zero]; exact HB0.out, (by repeat (first | assumption | apply bel_alloc | apply bel_drewN | apply bel_drew | exact bel_refl _))⟩
  case round =>
    obtain ⟨i, rfl, hi, hblk, hbel⟩ := hrel
    have HB := hid' hblk
    have HL := hid' hbel
    clear hblk hbel
    by_cases hlt : i < N
    · have h1 : (i : Int) < (M : Int) := by omega
      have hcell := (HB.out.cell i).trans (bcells_at _ (by omega))
      have hfr := HB.out.frozen i
      go_wp2_with fail
      refine (ref03_bit s i _ hs (by have := HN.out; omega)).mono ?_
      rintro e w' ⟨rfl, rfl⟩
      go_wp2
      go_roundw
      case rel => exact ⟨i + 1, by go_num, by omega, by rw [← f1_succ, ← bcells_set _ (by omega)]; exact HB.out.set i _, bel_set HL.out (Nat.le_refl _) _⟩
      case measure => simp [intOf]; omega
    · have hiN : i = N := by omega
      subst hiN
      clear hlt hi
      have HB2 := hid' (show Blk wr w.heap.size 3 (bcells (f2 (bl s) 0) M) by have := HB.out; rw [HN.out, ← bl_len, f2_zero] at this; exact this)
      clear HB
      have HB := HB2
      clear HB2
      go_wp2
      go_loopw [6] (fun v6 wr => ∃ k : Nat, v6 = .int .i64 k ∧ k ≤ 32 ∧ Blk wr w.heap.size 3 (bcells (f2 (bl s) k) M) ∧ Below w.heap.size w wr) (fun v6 _ => (32 - intOf v6).toNat)
      case atStart => exact ⟨0, rfl, by omega, HB.out, HL.out⟩
      case round =>
        obtain ⟨k, rfl, hk, hblk, hbel⟩ := hrel
        have HB := hid' hblk
        have HL := hid' hbel
        clear hblk hbel
        by_cases hlt : k < 32
        · have h1 : (k : Int) < (M : Int) := by omega
          have hf : f2 (bl s) k k = bitAt (bl s) k := by unfold f2; rw [if_neg (by omega)]
          have hcell := (HB.out.cell k).trans (bcells_at _ (by omega))
          rw [hf] at hcell
          have hnot := not_nat (bitAt (bl s) k)
          have hfr := HB.out.frozen k
          clear hf
          go_wp2
          go_roundw
          case rel => exact ⟨k + 1, by go_num, by omega, by rw [← f2_succ, ← bcells_set _ (by omega)]; exact HB.out.set k _, bel_set HL.out (Nat.le_refl _) _⟩
          case measure => simp [intOf]; omega
        · have hk32 : k = 32 := by omega
          have HB2 := hid' (show Blk wr w.heap.size 3 (bcells (f2 (bl s) 32) M) by have := HB.out; rw [hk32] at this; exact this)
          clear HB hk32
          have HB := HB2
          clear HB2
          generalize hkk : k = k6 at *
          clear hkk
          go_wp2
          go_loopw [7, 8] (fun v7 v8 wr => ∃ (j : Nat) (f : Nat → Bool), v7 = .int .i64 j ∧ j ≤ i ∧ win (bl s) j f ∧ Blk wr w.heap.size 3 (bcells f M) ∧ Below w.heap.size w wr) (fun v7 _ _ => (i - intOf v7).toNat)
          case atStart => exact ⟨0, _, rfl, by omega, f2_win _, HB.out, HL.out⟩
          case round =>
            obtain ⟨j, f, rfl, hj, hwin, hblk, hbel⟩ := hrel
            have HB := hid' hblk
            have HL := hid' hbel
            have HW := hid' hwin
            clear hblk hbel hwin
            by_cases hlt : j < i
            · have h1 : (j : Int) < (M : Int) := by omega
              have hcell := (HB.out.cell j).trans (bcells_at _ (by omega))
              by_cases hf : f j = true
              · rw [hf] at hcell
                have HF := hid' hf
                clear hf
                simp only [Bool.toNat_true] at hcell
                go_wp2
                clear hcell
                go_loopw [8] (fun v8 wr => ∃ k : Nat, v8 = .int .i64 k ∧ 1 ≤ k ∧ k ≤ 33 ∧ Blk wr w.heap.size 3 (bcells (divOne j k f) M) ∧ Below w.heap.size w wr) (fun v8 _ => (33 - intOf v8).toNat)
                case atStart => exact ⟨1, rfl, by omega, by omega, by rw [divOne_one]; exact HB.out, HL.out⟩
                case round =>
                  obtain ⟨k, rfl, hk1, hk, hblk, hbel⟩ := hrel
                  have HB := hid' hblk
                  have HL := hid' hbel
                  clear hblk hbel
                  by_cases hle : k ≤ 32
                  · obtain ⟨t, ht⟩ : ∃ t, t = j + k := ⟨_, rfl⟩
                    have hjk : (j : Int) + (k : Int) = (t : Int) := by omega
                    have htM : t < M := by omega
                    have htb : t ≤ 8000032 := by omega
                    have h2 : (t : Int) < (M : Int) := by omega
                    have h3 : (0 : Int) ≤ (t : Int) := by omega
                    have hcell := (HB.out.cell (j + k)).trans (bcells_at _ (by omega))
                    rw [divOne_at, ← ht] at hcell
                    have hfr := HB.out.frozen t
                    obtain ⟨q, hq⟩ : ∃ q, q = 32 - k := ⟨_, rfl⟩
                    have hqi : (32 : Int) - (k : Int) = (q : Int) := by omega
                    have hq100 : q ≤ 100 := by omega
                    have HX := hid' (xor_nat2 (f (j + k)) (pw q))
                    have HS := hid' (divOne_succ j k f hk1)
                    rw [← hq, ← ht] at HS
                    rw [← ht] at HX
                    clear hq ht
                    have ha : (f t).toNat ≤ 1 := by cases f t <;> decide
                    have hb : (pw q).toNat ≤ 1 := by cases pw q <;> decide
                    have HP := hid' (fun w => ref03_power q w hq100)
                    generalize (f t).toNat = a at *
                    generalize (pw q).toNat = b at *
                    go_wp2
                    have hwt : IntKind.i64.wrap (t : Int) = (t : Int) := by rw [IntKind.wrap_i64]; omega
                    have hwq : IntKind.i64.wrap (q : Int) = (q : Int) := by rw [IntKind.wrap_i64]; omega
                    have hwa : IntKind.i64.wrap ((a : Int) + (b : Int)) = (a : Int) + (b : Int) := by rw [IntKind.wrap_i64]; omega
                    go_region_with
                      ((go_at_call 57; refine (HP.out wr.drew).mono ?_; rintro e w2 ⟨rfl, hb2⟩; have hc2 : w2.cell? ⟨w.heap.size, t, none⟩ = some (.int .i64 (a : Int)) := (hb2.cell (p := ⟨w.heap.size, t, none⟩) HB.out.lt).trans hcell; have hf2 : w2.frozen? ⟨w.heap.size, t, none⟩ = false := (hb2.frozen (p := ⟨w.heap.size, t, none⟩) HB.out.lt).trans hfr))
                    all_goals
                      have htm : ((a : Int) + (b : Int)).tmod 2 = ((f t ^^ pw q).toNat : Int) := by rw [Int.tmod_eq_emod_of_nonneg (by omega)]; exact HX.out
                      rw [htm]
                      have HB2 := hid' (HB.out.drew.below hb2)
                      have HL2 := hid' (bel_then (bel_drew HL.out) hb2)
                      clear hb2 hc2 hf2 hwt hwq hwa htm hcell hfr
                      go_wp2
                      go_roundw
                      case rel => exact ⟨k + 1, by go_num, by omega, by omega, by rw [← HS.out, ← bcells_set _ htM]; exact HB2.out.set t _, bel_set HL2.out (Nat.le_refl _) _⟩
                      case measure => simp [intOf]; omega
                  · have hk33 : k = 33 := by omega
                    have HB2 := hid' (show Blk wr w.heap.size 3 (bcells (divOne j 33 f) M) by have := HB.out; rw [hk33] at this; exact this)
                    clear hk33
                    go_wp2
                    go_roundw
                    case rel => exact ⟨j + 1, _, by go_num, by omega, win_step1 _ _ _ HW.out HF.out, HB2.out, HL.out⟩
                    case measure => simp [intOf]; omega
              · have hf' : f j = false := by simpa using hf
                rw [hf'] at hcell
                have HF := hid' hf'
                clear hf hf'
                simp only [Bool.toNat_false] at hcell
                go_wp2
                go_roundw
                case rel => exact ⟨j + 1, f, by go_num, by omega, win_step0 _ _ _ HW.out HF.out, HB.out, HL.out⟩
                case measure => simp [intOf]; omega
            · have hji : j = i := by omega
              subst hji
              have HC := hid' (show ∀ k, k < 32 → f (j + k) = !((csum (bl s)).testBit k) by
                intro k hk
                have h1 := HW.out k
                rw [h1, bitAt_out _ _ (by rw [bl_len]; have := HN.out; omega), csum_bit _ _ hk, HN.out, ← bl_len, regF_all]
                simp)
              clear hlt
              go_wp2
              go_loopw [9, 10] (fun v9 v10 wr => ∃ k : Nat, v10 = .int .i64 ((k : Int) - 1) ∧ k ≤ 32 ∧ v9 = .int .u32 ((csum (bl s) / 2 ^ k : Nat) : Int) ∧ Blk wr w.heap.size 3 (bcells f M) ∧ Below w.heap.size w wr) (fun _ v10 _ => (intOf v10 + 1).toNat)
              case atStart => exact ⟨32, by rfl, by omega, by rw [Nat.div_eq_of_lt (show csum (bl s) < 2 ^ 32 from crcStr_lt s)]; rfl, HB.out, HL.out⟩
              case round =>
                obtain ⟨k, rfl, hk, rfl, hblk, hbel⟩ := hrel
                have HB := hid' hblk
                have HL := hid' hbel
                clear hblk hbel
                by_cases h0 : 0 < k
                · obtain ⟨q, rfl⟩ : ∃ q, k = q + 1 := ⟨k - 1, by omega⟩
                  obtain ⟨t, ht⟩ : ∃ t, t = j + q := ⟨_, rfl⟩
                  have hjk : (j : Int) + (q : Int) = (t : Int) := by omega
                  have htb : t ≤ 8000032 := by omega
                  have h2 : (t : Int) < (M : Int) := by omega
                  have h3 : (0 : Int) ≤ (t : Int) := by omega
                  have hcell := (HB.out.cell t).trans (bcells_at _ (by omega))
                  have hft : f t = !((csum (bl s)).testBit q) := by rw [ht]; exact HC.out q (by omega)
                  rw [hft] at hcell
                  have hz : csum (bl s) / 2 ^ (q + 1) * 2 + ((csum (bl s)).testBit q).toNat = csum (bl s) / 2 ^ q := down_step _ _
                  have hy : csum (bl s) / 2 ^ q ≤ csum (bl s) := Nat.div_le_self _ _
                  have hy2 : csum (bl s) < 2 ^ 32 := crcStr_lt s
                  have hcd : (!((csum (bl s)).testBit q)).toNat + ((csum (bl s)).testBit q).toNat = 1 := by cases (csum (bl s)).testBit q <;> rfl
                  generalize (!((csum (bl s)).testBit q)).toNat = c at *
                  generalize ((csum (bl s)).testBit q).toNat = d at *
                  have HZ := hid' hz
                  have HCD := hid' hcd
                  have hq1 : ((q + 1 : Nat) : Int) - 1 = (q : Int) := by omega
                  rw [hq1]
                  have hzb : csum (bl s) / 2 ^ (q + 1) ≤ 2147483648 := by omega
                  have hcb : c ≤ 1 := by omega
                  generalize hzz : csum (bl s) / 2 ^ (q + 1) = z at *
                  clear hz hcd hft ht
                  go_wp2
                  go_roundw
                  case rel =>
                    refine ⟨q, rfl, by omega, ?_, HB.out, HL.out⟩
                    have h5 := HZ.out
                    have h6 := HCD.out
                    exact congrArg (Value.int .u32) (by omega)
                  case measure => simp [intOf] <;> omega
                · have : k = 0 := by omega
                  subst this
                  go_wp2
                  go_ret
                  exact ⟨ret_int (by simp [crcStr]), HL.out⟩
end Go.Proofs.Ytjdjpljjahnhjaa
