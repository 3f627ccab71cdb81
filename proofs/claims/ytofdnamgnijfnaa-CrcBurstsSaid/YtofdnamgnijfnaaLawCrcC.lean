
/- Sealed bytes that are harmed within 32 bits aren't sealed, walked. No condition. -/
import Derived.Test.YtofdnamgnijfnaaCrcBurst
namespace Go.Proofs.Ytofdnamgnijfnaa
open Go.RowKit
set_option linter.unusedVariables false
set_option linter.unusedSimpArgs false

def flip (c : UInt8) (r : Nat) : UInt8 := UInt8.ofNat (c.toNat ^^^ 2 ^ r)
theorem flip_toNat (c : UInt8) (r : Nat) (hr : r < 8) : (flip c r).toNat = c.toNat ^^^ 2 ^ r := by
  have h1 : c.toNat ^^^ 2 ^ r < 2 ^ 8 := Nat.xor_lt_two_pow c.toNat_lt (Nat.pow_lt_pow_right (by omega) hr)
  unfold flip
  rw [UInt8.toNat_ofNat']
  omega
theorem flip_bit (c : UInt8) (r j : Nat) (hr : r < 8) : (flip c r).toNat.testBit j = (c.toNat.testBit j ^^ decide (r = j)) := by
  rw [flip_toNat c r hr, Nat.testBit_xor, Nat.testBit_two_pow]
theorem bitAt_set (ys : List UInt8) (k j : Nat) (c : UInt8) (hc : ys[k / 8]? = some c) : bitAt (ys.set (k / 8) (flip c (k % 8))) j = (bitAt ys j ^^ decide (j = k)) := by
  have hlt := (List.getElem?_eq_some_iff.1 hc).1
  unfold bitAt
  rw [List.getD_eq_getElem?_getD, List.getD_eq_getElem?_getD, List.getElem?_set]
  by_cases h : k / 8 = j / 8
  · rw [if_pos h, if_pos hlt, ← h, hc]
    simp only [Option.getD_some]
    rw [flip_bit c _ _ (by omega)]
    have : (k % 8 = j % 8) = (j = k) := by apply propext; omega
    simp only [this]
  · rw [if_neg h]
    rw [show decide (j = k) = false from decide_eq_false (by intro e; subst e; exact h rfl)]
    simp
theorem hit_zero (first mask j : Nat) : hit first mask 0 j = false := by
  unfold hit
  by_cases h : first ≤ j
  · rw [show decide (j < first + 0) = false from decide_eq_false (by omega)]; simp
  · rw [show decide (first ≤ j) = false from decide_eq_false h]; simp
theorem hit_succ (first mask i j : Nat) : hit first mask (i + 1) j = (hit first mask i j ^^ (decide (j = first + i) && mask.testBit i)) := by
  unfold hit
  by_cases h : j = first + i
  · subst h
    rw [show first + i - first = i by omega, show decide (first ≤ first + i) = true from decide_eq_true (by omega), show decide (first + i < first + (i + 1)) = true from decide_eq_true (by omega), show decide (first + i < first + i) = false from decide_eq_false (by omega)]
    simp
  · rw [show decide (j = first + i) = false from decide_eq_false h]
    have : (j < first + (i + 1)) = (j < first + i) := by apply propext; omega
    simp only [this]
    simp

/-- A row of bytes in a block, cell by cell. -/
def RowB (w : World) (g : Nat) (ys : List UInt8) : Prop := (∀ j c, ys[j]? = some c → w.cell? ⟨g, j, none⟩ = some (bcell c)) ∧ (∀ j, j < ys.length → w.frozen? ⟨g, j, none⟩ = false) ∧ g < w.heap.size
theorem RowB.drew {w : World} {g : Nat} {ys : List UInt8} (h : RowB w g ys) : RowB w.drew g ys := h
theorem RowB.below {w w' : World} {g : Nat} {ys : List UInt8} (h : RowB w g ys) (m : Below w.heap.size w w') : RowB w' g ys :=
  ⟨fun j c hj => (m.cell (p := ⟨g, j, none⟩) h.2.2).trans (h.1 j c hj), fun j hj => (m.frozen (p := ⟨g, j, none⟩) h.2.2).trans (h.2.1 j hj), Nat.lt_of_lt_of_le h.2.2 m.size⟩
theorem RowB.set {w : World} {g : Nat} {ys : List UInt8} (h : RowB w g ys) (k : Nat) (c d : UInt8) (hc : ys[k]? = some d) : RowB (w.setCell ⟨g, k, none⟩ (bcell c)) g (ys.set k c) := by
  refine ⟨fun j u hj => ?_, fun j hj => by rw [World.frozen?_setCell]; exact h.2.1 j (by simpa using hj), by simpa using h.2.2⟩
  rw [List.getElem?_set] at hj
  by_cases hk : k = j
  · subst hk
    rw [if_pos rfl] at hj
    split at hj
    · simp only [Option.some.injEq] at hj
      subst hj
      exact World.cell?_setCell_same _ _ _ (h.1 k d hc)
    · cases hj
  · rw [if_neg hk] at hj
    rw [World.cell?_setCell_other _ _ _ _ (by intro e; injection e with _ e _; exact hk (by omega))]
    exact h.1 j u hj
theorem RowB.bytes (w : World) (e : TypeId) (s : ByteArray) : RowB (Lib.bytesWorld w e s) w.heap.size (bl s) := by
  have hnew := Lib.bytesWorld_at_new w e s
  refine ⟨fun j c hj => ?_, fun j hj => by
    have hge := grownCap_ge w s.size 0 e
    have hcs : (Lib.bytesCells w e s).size = grownCap w s.size 0 e := by
      unfold Lib.bytesCells
      rw [Array.size_append, Array.size_map, Array.size_replicate]
      have : s.data.size = s.size := rfl
      omega
    rw [bl_len] at hj
    simp only [World.frozen?, hnew]; simp; omega, by rw [Lib.bytesWorld_size]; omega⟩
  have hjl := (List.getElem?_eq_some_iff.1 hj).1
  have hjs : j < s.size := by rw [bl_len] at hjl; exact hjl
  rw [Lib.bytesWorld_cell w e s j hjs]
  have hd : s.data.size = s.size := rfl
  have hc : s.data[j]? = some c := by
    unfold bl at hj
    rwa [Array.getElem?_toList] at hj
  congr 1
  have hjd : j < s.data.size := by omega
  rw [Array.getElem?_eq_getElem hjd] at hc
  simp only [Option.some.injEq] at hc
  subst hc
  simp [bcell, List.getD_eq_getElem?_getD, List.getElem?_eq_getElem, hjd]
  rw [Array.getElem?_eq_getElem hjd]; rfl
theorem RowB.string {P : Program} {w : World} {g : Nat} {ys : List UInt8} (h : RowB w g ys) (n cap : Nat) (hn : n ≤ ys.length) (src dst e : TypeId) (hs : P.underlying src = some (.slice e)) (he : P.underlying e = some (.int .u8)) (hd : P.underlying dst = some .string) :
    (convert src dst (.slice (some ⟨g, 0, none⟩) n cap)).run P w = .ok (.string (strOf (ys.take n))) w := by
  have hstr : strOfNums ((ys.take n).map fun b => (b.toNat : Int)) = strOf (ys.take n) := by
    unfold strOfNums strOf
    rw [List.map_map]
    congr 2
    conv => rhs; rw [← List.map_id (ys.take n)]
    apply List.map_congr_left
    intro b _
    simp
  rw [← hstr]
  refine run_convert_bytes_arg w src e hs he g 0 n cap ((ys.take n).map fun b => (b.toNat : Int)) (by simp; omega) (fun i hi => ?_) dst hd
  rw [Nat.zero_add, h.1 i ys[i] (List.getElem?_eq_getElem (by omega))]
  rw [List.getD_eq_getElem?_getD, List.getElem?_map, List.getElem?_take, if_pos hi, List.getElem?_eq_getElem (by omega)]
  rfl

theorem cbytes_inj (a b : Nat) (ha : a < 2 ^ 32) (hb : b < 2 ^ 32) (h : cbytes a = cbytes b) : a = b := by
  unfold cbytes at h
  simp only [List.cons.injEq, and_true] at h
  obtain ⟨h1, h2, h3, h4⟩ := h
  have e : ∀ x y : Nat, x < 256 → y < 256 → UInt8.ofNat x = UInt8.ofNat y → x = y := by
    intro x y hx hy h
    have := congrArg UInt8.toNat h
    rw [UInt8.toNat_ofNat', UInt8.toNat_ofNat'] at this
    omega
  have := e _ _ (by omega) (by omega) h1
  have := e _ _ (by omega) (by omega) h2
  have := e _ _ (by omega) (by omega) h3
  have := e _ _ (by omega) (by omega) h4
  omega
theorem bl_strOf (l : List UInt8) : bl (strOf l) = l := rfl
theorem strOf_bl (s : ByteArray) : strOf (bl s) = s := by
  apply ByteArray.ext
  unfold strOf bl
  apply Array.ext'; simp
theorem bl_cseal (s : ByteArray) : bl (cseal s) = bl s ++ cbytes (crcStr s) := by
  unfold cseal bl
  rw [ByteArray.data_append]
  simp [strOf]
theorem strOf_takeC (s : ByteArray) (k : Nat) : strOf ((bl s).take k) = s.extract 0 k := by
  apply ByteArray.ext
  rw [ByteArray.data_extract]
  unfold strOf bl
  apply Array.ext'
  simp
theorem bl_extract (s : ByteArray) (k : Nat) : bl (s.extract 0 k) = (bl s).take k := by
  rw [← bl_strOf ((bl s).take k), strOf_takeC]
theorem bitAt_drop (l : List UInt8) (n j : Nat) : bitAt (l.drop n) j = bitAt l (8 * n + j) := by
  unfold bitAt
  rw [List.getD_eq_getElem?_getD, List.getD_eq_getElem?_getD, List.getElem?_drop, show (8 * n + j) / 8 = n + j / 8 by omega, show (8 * n + j) % 8 = j % 8 by omega]
theorem bitAt_take (l : List UInt8) {n j : Nat} (h : j < 8 * n) : bitAt (l.take n) j = bitAt l j := by
  unfold bitAt
  rw [List.getD_eq_getElem?_getD, List.getD_eq_getElem?_getD, List.getElem?_take, if_pos (by omega)]
theorem bitAt_left (a b : List UInt8) {j : Nat} (h : j < 8 * a.length) : bitAt (a ++ b) j = bitAt a j := by
  unfold bitAt
  rw [List.getD_eq_getElem?_getD, List.getD_eq_getElem?_getD, List.getElem?_append_left (by omega)]
theorem bitAt_right (a b : List UInt8) (j : Nat) : bitAt (a ++ b) (8 * a.length + j) = bitAt b j := by
  unfold bitAt
  rw [List.getD_eq_getElem?_getD, List.getD_eq_getElem?_getD, List.getElem?_append_right (by omega), show (8 * a.length + j) / 8 - a.length = j / 8 by omega, show (8 * a.length + j) % 8 = j % 8 by omega]
theorem burst_open (s : ByteArray) (ys : List UInt8) (N f mk : Nat) (hN : N = 8 * s.size) (hf : f < N) (hl : ys.length = s.size + 4)
    (h : ∀ j, bitAt ys j = (bitAt (bl (cseal s)) j ^^ (decide (j < N) && hit f mk 32 j))) :
    copB (strOf ys) = ((strOf (ys.take s.size)).toList == s.toList) := by
  have hbl := bl_cseal s
  have hsl : (bl s).length = s.size := bl_len s
  have hcl : (cbytes (crcStr s)).length = 4 := rfl
  have hdrop : ys.drop s.size = cbytes (crcStr s) := by
    apply bytes_eq
    · rw [List.length_drop, hl, hcl]; omega
    · intro j hj
      rw [bitAt_drop, h, show decide (8 * s.size + j < N) = false from decide_eq_false (by omega), Bool.false_and, Bool.xor_false, hbl, ← hsl, bitAt_right]
  have htake : ∀ j, j < 8 * s.size → bitAt (ys.take s.size) j = (bitAt (bl s) j ^^ hit f mk 32 j) := by
    intro j hj
    rw [bitAt_take _ hj, h, show decide (j < N) = true from decide_eq_true (by omega), Bool.true_and, hbl, bitAt_left _ _ (by omega)]
  have hys : ys = ys.take s.size ++ cbytes (crcStr s) := by rw [← hdrop, List.take_append_drop]
  have hsz : (strOf ys).size = s.size + 4 := hl
  have hex : (strOf ys).extract 0 ((strOf ys).size - 4) = strOf (ys.take s.size) := by
    rw [hsz, Nat.add_sub_cancel, ← strOf_takeC]; rfl
  unfold copB copen
  rw [if_neg (by omega), hex]
  by_cases he : ys.take s.size = bl s
  · have : cseal (strOf (ys.take s.size)) = strOf ys := by
      rw [he, strOf_bl]
      have h2 : bl (cseal s) = bl (strOf ys) := by rw [hbl, bl_strOf, ← he]; exact hys.symm
      have := congrArg strOf h2
      rwa [strOf_bl, strOf_bl] at this
    rw [if_pos this, he, strOf_bl]
    simp
  · have hne : cseal (strOf (ys.take s.size)) ≠ strOf ys := by
      intro e
      apply he
      have e2 := congrArg bl e
      rw [bl_cseal, bl_strOf, bl_strOf] at e2
      have e3 : cbytes (crcStr (strOf (ys.take s.size))) = cbytes (crcStr s) := List.append_cancel_left (e2.trans hys)
      have e4 := cbytes_inj _ _ (crcStr_lt _) (crcStr_lt _) e3
      have e5 : creg (ys.take s.size) = creg (bl s) := by
        unfold crcStr csum at e4
        rw [bl_strOf] at e4
        have := congrArg (CM ^^^ ·) e4
        simpa [← Nat.xor_assoc] using this
      exact bits_burst (bl s) (ys.take s.size) f mk (by rw [List.length_take, hl, hsl]; omega) (by omega) (by rw [hsl]; exact htake) e5
    rw [if_neg hne]
    have : (strOf (ys.take s.size)).toList ≠ s.toList := fun e => he (by
      have := congrArg bl (str_ext e)
      rwa [bl_strOf] at this)
    simp [this]
theorem flip_bits (c : UInt8) (r : Nat) (hr : r < 8) : bits .xor .u8 (c.toNat : Int) (2 ^ r % 256) = ((flip c r).toNat : Int) := by
  have h2 : (2 : Nat) ^ r < 256 := Nat.pow_lt_pow_right (a := 2) (by omega) hr
  have h3 : ((2 : Int) ^ r % 256) = ((2 ^ r : Nat) : Int) := by
    have : ((2 : Int) ^ r) = ((2 ^ r : Nat) : Int) := by push_cast; rfl
    rw [this]; generalize (2 : Nat) ^ r = z at h2 ⊢; omega
  rw [h3, flip_toNat c r hr]
  exact u8_xor_nat _ _ c.toNat_lt h2
theorem and_bit (m i : Nat) (hm : m < 4294967296) : (bits .and .u32 ((m : Int) / 2 ^ i) 1 == 1) = m.testBit i := by
  have h1 : ((m : Int) / 2 ^ i) = ((m / 2 ^ i : Nat) : Int) := by simp
  have h2 : m / 2 ^ i ≤ m := Nat.div_le_self _ _
  have := u32_and_nat (m / 2 ^ i) 1 (by omega) (by omega)
  rw [nat_mask1] at this
  rw [h1, show (1 : Int) = ((1 : Nat) : Int) from rfl, this, Nat.testBit_eq_decide_div_mod_eq]
  rw [Bool.eq_iff_iff]
  simp
  omega
set_option maxRecDepth 100000 in
set_option maxHeartbeats 4000000 in
theorem crcBursts (s : ByteArray) (a m : Int) (w : World) (hs : s.size ≤ maxLen) (ha : (Lit.int .u16 a).wf = true) (hm : (Lit.int .u32 m).wf = true) :
    Calls Try.prog 5 #[.string s, .int .u16 a, .int .u32 m] w fun e w' => e = .returned (.bool true) ∧ Below w.heap.size w w' := by
  have ha2 : 0 ≤ a ∧ a < 65536 := by
    simp [Lit.wf, IntKind.min, IntKind.max, IntKind.bits, IntKind.signed] at ha
    omega
  have hm2 : 0 ≤ m ∧ m < 4294967296 := by
    simp [Lit.wf, IntKind.min, IntKind.max, IntKind.bits, IntKind.signed] at hm
    omega
  obtain ⟨an, rfl⟩ := Int.eq_ofNat_of_zero_le ha2.1
  obtain ⟨mk, rfl⟩ := Int.eq_ofNat_of_zero_le hm2.1
  have han : an < 65536 := by omega
  have hmk : mk < 4294967296 := by omega
  clear ha2 hm2 ha hm
  go_enter Try.func5, Try.ntmps5
  go_wp2_with fail
  refine (law03_speaks w).mono ?_
  rintro e w1 ⟨rfl, hb1⟩
  by_cases hlen : s.size ≤ 2000
  · by_cases h0 : s.size = 0
    · have hs0 : s = { data := #[] } := by
        apply ByteArray.ext
        exact Array.eq_empty_of_size_eq_zero h0
      subst hs0
      go_wp2
      go_ret
      exact ⟨by simp, hb1⟩
    · have hne : s.toList.isEmpty = false := by
        rw [ByteArray.toList_eq, List.isEmpty_eq_false_iff]
        intro h
        have h2 : s.data.toList.length = 0 := by rw [h]; rfl
        rw [Array.length_toList] at h2
        exact h0 h2
      go_wp2_with fail
      refine (crc_New w1).mono ?_
      rintro e w2 ⟨g, rfl, hg, hB2, hb2⟩
      have HB2 := hid' hB2
      clear hB2
      go_wp2_with fail
      refine (crc_Seal g s w2 (by omega) HB2.out).mono ?_
      rintro e w3 ⟨rfl, hb3⟩
      have HB3 := hid' (HB2.out.below hb3)
      have hbel := bel_then (bel_then hb1 hb2) hb3
      clear hb1 hb2 hb3
      have hzS := cseal_size s
      have hconv := Lib.run_convert_string_bytes (P := Try.prog) (u := .string) w3 9 32 5 (cseal s) (by kernel_rfl) (by kernel_rfl) (by kernel_rfl)
      have HR := hid' (RowB.bytes w3 5 (cseal s))
      have HBW := hid' (bel_then hbel (bytesWorld_below w3 5 (cseal s)))
      have HG := hid' (HB3.out.below (bytesWorld_below w3 5 (cseal s)))
      have hgne : g ≠ w3.heap.size := by have := HB3.out.lt; omega
      have hge := grownCap_ge w3 (cseal s).size 0 5
      have hwb := hbel.size
      generalize grownCap w3 (cseal s).size 0 5 = C at *
      generalize Lib.bytesWorld w3 5 (cseal s) = W at *
      generalize w3.heap.size = b at *
      generalize hS : cseal s = S at *
      have HS := hid' hS
      clear hS
      clear hbel
      go_wp2
      clear hconv
      obtain ⟨N, hN⟩ : ∃ N, N = 8 * s.size := ⟨_, rfl⟩
      obtain ⟨f, hf⟩ : ∃ f, f = an % N := ⟨_, rfl⟩
      have hfN : f < N := by rw [hf]; exact Nat.mod_lt _ (by omega)
      have h8 : (8 : Int) * (s.size : Int) = (N : Int) := by omega
      have hfi : (an : Int) % (N : Int) = (f : Int) := by rw [hf]; exact (Int.natCast_emod _ _).symm
      rw [h8, hfi]
      have hNb : N ≤ 16000 := by omega
      have HN := hid' hN
      clear hf hN h8 hfi
      go_loopw [36] (fun v36 wr => ∃ (i : Nat) (ys : List UInt8), v36 = .int .i64 i ∧ i ≤ 32 ∧ ys.length = s.size + 4 ∧ Hid (∀ j, bitAt ys j = (bitAt (bl S) j ^^ (decide (j < N) && hit f mk i j))) ∧
        RowB wr b ys ∧ Blk wr g 79 (tabOf 256) ∧ Below w.heap.size w wr) (fun v36 _ => (32 - intOf v36).toNat)
      case atStart => exact ⟨0, bl S, rfl, by omega, by rw [bl_len]; omega, by intro j; rw [hit_zero]; simp, HR.out, HG.out, HBW.out⟩
      case round =>
        obtain ⟨i, ys, rfl, hi, hyl, HY, hrow, hblk, hbel⟩ := hrel
        have HR := hid' hrow
        have HG := hid' hblk
        have HB := hid' hbel
        clear hrow hblk hbel
        by_cases hlt : i < 32
        · obtain ⟨t, ht⟩ : ∃ t, t = f + i := ⟨_, rfl⟩
          have hjk : (f : Int) + (i : Int) = (t : Int) := by omega
          have htb : t ≤ 16032 := by omega
          have HJ := hid' hjk
          clear hjk
          have hab := and_bit mk i hmk
          by_cases hbit : mk.testBit i = true
          · rw [hbit] at hab
            by_cases htN : t < N
            · have htN2 : (f : Int) + (i : Int) < (N : Int) := by omega
              obtain ⟨q, hq⟩ : ∃ q, q = t / 8 := ⟨_, rfl⟩
              obtain ⟨r, hr⟩ : ∃ r, r = t % 8 := ⟨_, rfl⟩
              have hqd : (t : Int) / 8 = (q : Int) := by omega
              have hrd : (t : Int) % 8 = (r : Int) := by omega
              have hr8 : r < 8 := by omega
              have HQ := hid' hq
              have HRR := hid' hr
              obtain ⟨c, hc⟩ : ∃ c, ys[q]? = some c := ⟨_, List.getElem?_eq_getElem (by have := HN.out; omega)⟩
              have hcell := HR.out.1 _ _ hc
              have hfr := HR.out.2.1 q (by have := HN.out; omega)
              unfold bcell at hcell
              have hq1 : (q : Int) < (s.size : Int) + 4 := by have := HN.out; omega
              go_wp2
              rw [HJ.out]
              have HTT := hid' ht
              clear ht htN2 hq hr
              go_region
              have hv := flip_bits c r hr8
              go_wp2
              refine ⟨⟨i + 1, ys.set q (flip c r), by go_num, by omega, by simpa using hyl, ?_, ?_, HG.out.drew.far hgne _, bel_set (bel_drew HB.out) hwb _⟩, by simp [intOf]; omega⟩
              · intro j
                have hset := bitAt_set ys t j c (by rw [← HQ.out]; exact hc)
                rw [← HQ.out, ← HRR.out] at hset
                rw [hset, HY.out j, hit_succ, ← HTT.out, hbit]
                by_cases hj : j = t
                · subst hj; simp [htN]
                · simp [hj]
              · have := (HR.out.set q (flip c r) c hc).drew
                unfold bcell at this
                exact this
            · have htN2 : ¬ ((f : Int) + (i : Int) < (N : Int)) := by omega
              go_wp2
              exact ⟨⟨i + 1, ys, by go_num, by omega, hyl, by
                intro j
                rw [HY.out j, hit_succ, ← ht]
                by_cases hj : j = t
                · subst hj; simp [show ¬ j < N from htN]
                · simp [hj], HR.out, HG.out, HB.out⟩, by simp [intOf]; omega⟩
          · rw [Bool.not_eq_true] at hbit
            rw [hbit] at hab
            go_wp2
            exact ⟨⟨i + 1, ys, by go_num, by omega, hyl, by
              intro j
              rw [HY.out j, hit_succ, hbit]
              simp, HR.out, HG.out, HB.out⟩, by simp [intOf]; omega⟩
        · have hi32 : i = 32 := by omega
          have hop := burst_open s ys N f mk HN.out hfN hyl (by
            intro j
            have := HY.out j
            rw [hi32, ← HS.out] at this
            exact this)
          have hc1 := HR.out.string (P := Try.prog) (s.size + 4) C (by omega) 32 9 5 (by kernel_rfl) (by kernel_rfl) (by kernel_rfl)
          rw [List.take_of_length_le (by omega)] at hc1
          have HOP := hid' hop
          have hysz : (strOf ys).size = s.size + 4 := hyl
          clear hop hi32
          go_wp2_with fail
          try rw [hc1]
          try go_wp2_with fail
          refine (crc_Open g (strOf ys) wr (by omega) HG.out).mono ?_
          rintro e w5 ⟨rfl, hb5⟩
          have hc2 := (HR.out.below hb5).string (P := Try.prog) s.size C (by omega) 32 9 5 (by kernel_rfl) (by kernel_rfl) (by kernel_rfl)
          have hcut := cut_h (P := Try.prog) 32 5 1 Try.underlying32 (by kernel_rfl) (some ⟨b, 0, none⟩) (s.size + 4) C s.size (by omega)
          have HB5 := hid' (bel_then HB.out hb5)
          rw [HOP.out]
          clear hb5 hc1
          go_wp2
          go_ret
          exact ⟨ret_bool (by simp), HB5.out⟩
  · go_wp2
    go_ret
    exact ⟨by simp, hb1⟩
end Go.Proofs.Ytofdnamgnijfnaa
