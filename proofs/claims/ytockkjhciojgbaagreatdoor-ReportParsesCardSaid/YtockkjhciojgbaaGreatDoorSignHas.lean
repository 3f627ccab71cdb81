
/- The signs of a text as the program finds them: quote.stray, quote.Has, walked. No condition but the tables of Go's own. -/
import Derived.Test.YtockkjhciojgbaaGreatDoorPackS
import Derived.Test.YtockkjhciojgbaaGreatDoorTabs
import Derived.Lib.OthersKept
namespace Go.Proofs.YtockkjhciojgbaaGreatDoor
set_option maxRecDepth 100000
set_option linter.unusedSimpArgs false
open Go.RowKit
set_option linter.unusedVariables false
set_option linter.unusedSimpArgs false

def It (w : World) (k : Nat) (s : ByteArray) (pos : Nat) : Prop := w.heap[k]? = some (.stringIter s pos)
theorem It.below {w w' : World} {k : Nat} {s : ByteArray} {pos : Nat} (h : It w k s pos) (hb : Below w.heap.size w w') : It w' k s pos := (hb.block k (Array.getElem?_eq_some_iff.1 h).1).trans h
theorem It.lt {w : World} {k : Nat} {s : ByteArray} {pos : Nat} (h : It w k s pos) : k < w.heap.size := (Array.getElem?_eq_some_iff.1 h).1
theorem It.pos {w : World} {k : Nat} {s : ByteArray} {pos : Nat} (h : It w k s pos) : w.iterPos k = pos := by unfold World.iterPos; rw [show w.heap[k]? = _ from h]
theorem It.next {w : World} {k : Nat} {s : ByteArray} {pos : Nat} (h : It w k s pos) (p2 : Nat) : It (w.iterAt k s p2) k s p2 := Lib.iterAt_heap w k s pos p2 h
theorem It.new_ (w : World) (s : ByteArray) : It (w.iter s 0) w.heap.size s 0 := World.iter_heap w s 0
theorem bel_iter {w : World} (s : ByteArray) (p : Nat) : Below w.heap.size w (w.iter s p) := bel_alloc (bel_refl w) _
theorem bel_iterAt {B : Nat} {w wr : World} (h : Below B w wr) {k : Nat} (hk : B ≤ k) (s : ByteArray) (p : Nat) : Below B w (wr.iterAt k s p) := Lib.below_iterAt h hk s p
theorem mod_iterAt {w : World} (k : Nat) (s : ByteArray) (p : Nat) : Mod (fun j => j = k) w (w.iterAt k s p) :=
  ⟨rfl, rfl, rfl, by rw [Lib.iterAt_size]; exact Nat.le_refl _, fun i hi hn => Lib.iterAt_other w k i s p hn⟩
set_option maxHeartbeats 2000000 in
theorem quote_stray (s : ByteArray) (p : Nat) (w : World) (hs : s.size ≤ 200000) (hp : p < s.size) (hT : U8T w) :
    Calls Tryz.prog 64 #[.string s, .int .i64 (p : Int), .int .i32 ((Utf8.decode s p).1 : Int)] w fun e w' => e = .returned (.bool (strayAt s p)) ∧ Below w.heap.size w w' := by
  have hs' : s.size ≤ 9223372036854775807 := by omega
  have hgo := decodeGo_tail hp
  have hD := hid' (Tryz.utf8_DecodeRuneInString (s.extract p s.size) w hT)
  rw [hgo] at hD
  have hst : strayAt s p = ((Utf8.decode s p).1 == 65533 && (Utf8.decode s p).2 == 1) := rfl
  have hw := sgW_pos s p
  unfold sgW at hw
  generalize (Utf8.decode s p).1 = c at *
  generalize (Utf8.decode s p).2 = q at *
  rw [hst]
  have hpi : (p : Int) ≤ (s.size : Int) := by omega
  have hb0 := bel_refl w
  clear hgo hst
  by_cases hc : c = 65533
  · subst hc
    by_cases hq : q = 1
    · subst hq
      go_enter Tryz.func64, Tryz.ntmps64
      go_wp2_with fail
      refine hD.out.mono ?_
      rintro e w1 ⟨rfl, hB⟩
      go_wp2
      go_ret
      exact ⟨rfl, hB⟩
    · have h1 : ((q : Int) == 1) = false := by rw [beq_eq_false_iff_ne]; omega
      have h2 : (q == 1) = false := by rw [beq_eq_false_iff_ne]; omega
      rw [h2]
      clear h2 hq
      go_enter Tryz.func64, Tryz.ntmps64
      go_wp2_with fail
      refine hD.out.mono ?_
      rintro e w1 ⟨rfl, hB⟩
      go_wp2
      go_ret
      exact ⟨rfl, hB⟩
  · have h1 : ((c : Int) != 65533) = true := by rw [bne_iff_ne]; omega
    have h2 : (c == 65533) = false := by rw [beq_eq_false_iff_ne]; exact hc
    rw [h2]
    clear h2 hc
    go_enter Tryz.func64, Tryz.ntmps64
    go_wp2
    go_ret
    exact ⟨rfl, hb0⟩
theorem sgN_eq {s : ByteArray} {p : Nat} {n : Int} (h0 : 0 ≤ n) : sgN s p = n ↔ (((Utf8.decode s p).1 : Int) = n ∧ strayAt s p = false) := by
  unfold sgN
  by_cases h : strayAt s p = true
  · rw [if_pos h]
    constructor
    · intro h1; omega
    · intro h1; rw [h] at h1; cases h1.2
  · rw [if_neg h]
    simp only [Bool.not_eq_true] at h
    simp [h]
set_option maxHeartbeats 8000000 in
theorem quote_Has (s : ByteArray) (n : Int) (w : World) (hs : s.size ≤ 200000) (hn : I64 n) (hT : U8T w) :
    Calls Tryz.prog 207 #[.string s, .int .i64 n] w fun e w' => e = .returned (.bool (hasB s n)) ∧ Below w.heap.size w w' := by
  have hs' : s.size ≤ 9223372036854775807 := by omega
  obtain ⟨b, hb⟩ : ∃ b, b = hasB s n := ⟨_, rfl⟩
  rw [← hb]
  have HB := hid' hb
  have HT := hid' hT
  have HI0 := hid' (It.new_ w s)
  have HL0 := hid' (bel_iter (w := w) s 0)
  clear hb hT
  go_enter Tryz.func207, Tryz.ntmps207
  go_wp2
  go_loopw [] (fun wr => ∃ k : Nat, It wr w.heap.size s (sSt s k).2 ∧ (0 ≤ n → n ∉ (sSt s k).1) ∧ Below w.heap.size w wr) (fun wr => s.size - wr.iterPos w.heap.size)
  case atStart => exact ⟨0, HI0.out, (fun _ h => by cases h), HL0.out⟩
  case round =>
    obtain ⟨k, hI, hno, hL⟩ := hrel
    obtain ⟨p, hp⟩ : ∃ p, p = (sSt s k).2 := ⟨_, rfl⟩
    rw [← hp] at hI
    have HI := hid' hI
    have HNO := hid' hno
    have HL := hid' hL
    have HP := hid' hp
    by_cases hlt : p < s.size
    · have hnx : ∀ ty, (Instr.next (.pointer (some ⟨w.heap.size, 0, none⟩)) true ty).run Tryz.prog wr = _ := fun ty => Lib.run_next_any_at wr w.heap.size s p ty hI hlt
      have hnxt := sSt_next (s := s) (k := k) (by rw [← hp]; exact hlt)
      rw [← hp] at hnxt
      have hsw := sgW_pos s p
      have hmem := sgN_mem (s := s) (k := k) (by rw [← hp]; exact hlt)
      rw [← hp] at hmem
      have hdl := dec_lt s p
      have hI2 := hI.next (p + sgW s p)
      have hL2 := bel_iterAt hL (Nat.le_refl _) s (p + sgW s p)
      have hT2 := HT.out.below hL2
      have HQ := hid' (quote_stray s p _ hs hlt hT2)
      have HI2 := hid' hI2
      have HL2 := hid' hL2
      have HNX := hid' hnxt
      have HMEM := hid' hmem
      have HEQ := hid' (fun h0 : 0 ≤ n => sgN_eq (s := s) (p := p) h0)
      have hws : w.heap.size < wr.heap.size := hI.lt
      clear hI hno hL hp hnxt hmem hI2 hL2 hT2
      change 1 ≤ (Utf8.decode s p).2 ∧ (Utf8.decode s p).2 ≤ 4 at hsw
      have hmes : ∀ W : World, It W w.heap.size s (p + sgW s p) → s.size - W.iterPos w.heap.size < s.size - wr.iterPos w.heap.size := by
        intro W hW
        have h1 : 1 ≤ sgW s p := hsw.1
        rw [hW.pos, HI.out.pos]; omega
      have HMES := hid' hmes
      clear hmes
      change Hid (Calls _ _ _ (wr.iterAt w.heap.size s (p + (Utf8.decode s p).2)) _) at HQ
      obtain ⟨c, hc⟩ : ∃ c, c = (Utf8.decode s p).1 := ⟨_, rfl⟩
      rw [← hc] at hnx HQ HEQ hdl
      have hq : (Utf8.decode s p).2 = sgW s p := rfl
      rw [hq] at hnx HQ
      clear hsw hq hc
      generalize sgW s p = q at *
      by_cases hcn : (c : Int) = n
      · have h0 : 0 ≤ n := by omega
        subst hcn
        cases hst : strayAt s p with
        | false =>
          have hbt : b = true := by
            rw [HB.out]
            have := (HEQ.out h0).2 ⟨rfl, hst⟩
            exact hasB_yes (by rw [← this]; exact HMEM.out) h0
          rw [hst] at HQ
          subst hbt
          clear hst HEQ
          go_wp2_with (go_at_call 64; refine HQ.out.mono ?_; rintro e w2 ⟨rfl, hB2⟩)
          go_ret
          exact ⟨rfl, bel_then HL2.out hB2⟩
        | true =>
          have hne : sgN s p ≠ (c : Int) := fun h => by have := ((HEQ.out h0).1 h).2; rw [hst] at this; cases this
          have HNE := hid' hne
          rw [hst] at HQ
          clear hst HEQ hne
          go_wp2_with (go_at_call 64; refine HQ.out.mono ?_; rintro e w2 ⟨rfl, hB2⟩)
          go_roundw
          case rel => exact ⟨k + 1, by rw [HNX.out]; exact HI2.out.below hB2, fun h hm => by
            rw [HNX.out] at hm
            rcases List.mem_append.1 hm with hm | hm
            · exact HNO.out h hm
            · rw [List.mem_singleton] at hm; exact HNE.out hm.symm, bel_then HL2.out hB2⟩
          case measure => exact HMES.out _ (HI2.out.below hB2)
      · have hne : ((c : Int) == n) = false := by rw [beq_eq_false_iff_ne]; exact hcn
        have HNE := hid' hcn
        clear hcn
        go_wp2
        go_roundw
        case rel => exact ⟨k + 1, by rw [HNX.out]; exact HI2.out, fun h hm => by
          rw [HNX.out] at hm
          rcases List.mem_append.1 hm with hm | hm
          · exact HNO.out h hm
          · rw [List.mem_singleton] at hm; exact HNE.out ((HEQ.out h).1 hm.symm).1, HL2.out⟩
        case measure => exact HMES.out _ HI2.out
    · have hnx : ∀ ty, (Instr.next (.pointer (some ⟨w.heap.size, 0, none⟩)) true ty).run Tryz.prog wr = _ := fun ty => Lib.run_next_end_at wr w.heap.size s p ty hI hlt
      have he := sSt_end (s := s) (k := k) (by rw [← hp]; exact hlt)
      have hbf : b = false := by
        rw [HB.out]
        unfold hasB
        rw [decide_eq_false_iff_not]
        rintro ⟨h1, h2⟩
        exact hno h2 (by rw [he]; exact h1)
      subst hbf
      clear hI hno hL hp he
      go_wp2
      go_ret
      exact ⟨rfl, HL.out⟩
end Go.Proofs.YtockkjhciojgbaaGreatDoor
