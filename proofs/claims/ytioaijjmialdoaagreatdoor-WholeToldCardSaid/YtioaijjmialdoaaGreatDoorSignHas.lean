
/- The signs of a text as the program finds them: quote.stray, quote.Has, walked. No condition but the tables of Go's own. -/
import Derived.Test.YtioaijjmialdoaaGreatDoorPackS
import Derived.Test.YtioaijjmialdoaaGreatDoorTabs
import Derived.Lib.OthersKept
namespace Go.Proofs.YtioaijjmialdoaaGreatDoor
set_option maxRecDepth 100000
set_option linter.unusedSimpArgs false
open Go.RowKit
set_option linter.unusedVariables false
set_option linter.unusedSimpArgs false

def It (w : World) (k : Nat) (s : ByteArray) (pos : Nat) : Prop := w.heap[k]? = some (.stringIter s pos)
theorem It.below {w w' : World} {k : Nat} {s : ByteArray} {pos : Nat} (h : It w k s pos) (hb : Below w.heap.size w w') : It w' k s pos := (hb.block k (Array.getElem?_eq_some_iff.1 h).1).trans h
theorem It.lt {w : World} {k : Nat} {s : ByteArray} {pos : Nat} (h : It w k s pos) : k < w.heap.size := (Array.getElem?_eq_some_iff.1 h).1
theorem It.pos {w : World} {k : Nat} {s : ByteArray} {pos : Nat} (h : It w k s pos) : w.iterPos k = pos := by unfold World.iterPos; rw [show w.heap[k]? = _ from h]
theorem It.next {w : World} {k : Nat} {s : ByteArray} {pos : Nat} (h : It w k s pos) (p2 : Nat) : It (w.iterAt k s p2) k s p2 := Lib.iterAt_heap w k s pos p2 h
theorem It.new_ (w : World) (s : ByteArray) : It (w.iter s 0) w.heap.size s 0 := World.iter_heap w s 0
theorem bel_iter {w : World} (s : ByteArray) (p : Nat) : Below w.heap.size w (w.iter s p) := bel_alloc (bel_refl w) _
theorem bel_iterAt {B : Nat} {w wr : World} (h : Below B w wr) {k : Nat} (hk : B ≤ k) (s : ByteArray) (p : Nat) : Below B w (wr.iterAt k s p) := Lib.below_iterAt h hk s p
theorem mod_iterAt {w : World} (k : Nat) (s : ByteArray) (p : Nat) : Mod (fun j => j = k) w (w.iterAt k s p) :=
  ⟨rfl, rfl, rfl, by rw [Lib.iterAt_size]; exact Nat.le_refl _, fun i hi hn => Lib.iterAt_other w k i s p hn⟩
set_option maxHeartbeats 2000000 in
theorem quote_stray (s : ByteArray) (p : Nat) (w : World) (hs : s.size ≤ 200000) (hp : p < s.size) (hT : U8T w) :
    Calls Tryz.prog 58 #[.string s, .int .i64 (p : Int), .int .i32 ((Utf8.decode s p).1 : Int)] w fun e w' => e = .returned (.bool (strayAt s p)) ∧ Below w.heap.size w w' := by
  have hs' : s.size ≤ 9223372036854775807 := by omega
  have hgo := decodeGo_tail hp
  have hD := hid' (Tryz.utf8_DecodeRuneInString (s.extract p s.size) w hT)
  rw [hgo] at hD
  have hst : strayAt s p = ((Utf8.decode s p).1 == 65533 && (Utf8.decode s p).2 == 1) := rfl
  have hw := sgW_pos s p
  unfold sgW at hw
  generalize (Utf8.decode s p).1 = c at *
  generalize (Utf8.decode s p).2 = q at *
  rw [hst]
  have hpi : (p : Int) ≤ (s.size : Int) := by omega
  have hb0 := bel_refl w
  clear hgo hst
  by_cases hc : c = 65533
  · subst hc
    by_cases hq : q = 1
    · subst hq
      go_enter Tryz.func58, Tryz.ntmps58
      go_wp2_with fail
      refine hD.out.mono ?_
      rintro e w1 ⟨rfl, hB⟩
      go_wp2
      go_ret
      exact ⟨rfl, hB⟩
    · have h1 : ((q : Int) == 1) = false := by rw [beq_eq_false_iff_ne]; omega
      have h2 : (q == 1) = false := by rw [beq_eq_false_iff_ne]; omega
      rw [h2]
      clear h2 hq
      go_enter Tryz.func58, Tryz.ntmps58
      go_wp2_with fail
      refine hD.out.mono ?_
      rintro e w1 ⟨rfl, hB⟩
      go_wp2
      go_ret
      exact ⟨rfl, hB⟩
  · have h1 : ((c : Int) != 65533) = true := by rw [bne_iff_ne]; omega
    have h2 : (c == 65533) = false := by rw [beq_eq_false_iff_ne]; exact hc
    rw [h2]
    clear h2 hc
    go_enter Tryz.func58, Tryz.ntmps58
    go_wp2
    go_ret
    exact ⟨rfl, hb0⟩
theorem sgN_eq {s : ByteArray} {p : Nat} {n : Int} (h0 : 0 ≤ n) : sgN s p = n ↔ (((Utf8.decode s p).1 : Int) = n ∧ strayAt s p = false) := by
  unfold sgN
  by_cases h : strayAt s p = true
  · rw [if_pos h]
    constructor
    · intro h1; omega
    · intro h1; rw [h] at h1; cases h1.2
  · rw [if_neg h]
    simp only [Bool.not_eq_true] at h
    simp [h]
end Go.Proofs.YtioaijjmialdoaaGreatDoor
