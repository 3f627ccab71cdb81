
/- A text in marks (quote.Quote), walked. No condition but the tables of Go's own library. -/
import Derived.Test.YtioaijjmialdoaaDoorSignHas
import Derived.Test.YtioaijjmialdoaaDoorQuoteP
import Derived.Test.YtioaijjmialdoaaDoorFmt16
import Derived.Test.YtioaijjmialdoaaDoorBuilderR
namespace Go.Proofs.YtioaijjmialdoaaDoor
set_option maxRecDepth 100000
set_option linter.unusedSimpArgs false
open Go.RowKit
set_option linter.unusedVariables false
set_option linter.unusedSimpArgs false

/-- A builder in a block and an iterator over a text in another one. -/
def QSt (w0 W : World) (it : Nat) (s : ByteArray) (pos : Nat) (l : List UInt8) : Prop := it ≠ w0.heap.size ∧ It W it s pos ∧ IsB w0.heap.size w0.heap.size (Lib.byteCells l) W ∧ Below w0.heap.size w0 W
section
variable {w0 W W' : World} {it pos : Nat} {s : ByteArray} {l : List UInt8}
theorem QSt.below (h : QSt w0 W it s pos l) (hb : Below W.heap.size W W') : QSt w0 W' it s pos l := ⟨h.1, h.2.1.below hb, IsB.below h.2.2.1 hb, bel_then h.2.2.2 hb⟩
theorem QSt.wrote {l' : List UInt8} (h : QSt w0 W it s pos l) (h1 : UsedB w0.heap.size w0.heap.size (Lib.byteCells l') W') (h2 : Below w0.heap.size W W') (h3 : Oth w0.heap.size W W') : QSt w0 W' it s pos l' :=
  ⟨h.1, Lib.OthersKept.iter h3 h.2.1 h.1, h1.is, h.2.2.2.trans h2⟩
theorem QSt.bel (h : QSt w0 W it s pos l) : Below w0.heap.size w0 W := h.2.2.2
theorem QSt.next (h : QSt w0 W it s pos l) (h1 : w0.heap.size ≤ it) (p2 : Nat) : QSt w0 (W.iterAt it s p2) it s p2 l :=
  ⟨h.1, h.2.1.next p2, Lib.IsBuilderF.iterAt h.2.2.1 h.2.1 p2, bel_iterAt h.2.2.2 h1 s p2⟩
theorem bc_len (l : List UInt8) : (Lib.byteCells l).length = l.length := by unfold Lib.byteCells; simp
theorem bc_app (a b : List UInt8) : Lib.byteCells (a ++ b) = Lib.byteCells a ++ Lib.byteCells b := by unfold Lib.byteCells; simp
theorem QSt.str (h : QSt w0 W it s pos l) (x : ByteArray) (hl : l.length + x.size ≤ 100000000) :
    Calls Tryd.prog 24 #[.pointer (some ⟨w0.heap.size, 0, none⟩), .string x] W fun e w' => (∃ r, e = .returned (.tuple #[.int .i64 r, .nilIface])) ∧ QSt w0 w' it s pos (l ++ bL x) :=
  (b_WriteString w0.heap.size w0.heap.size _ x W h.2.2.1 (by rw [bc_len]; omega) h.2.2.2.size).mono fun e w' ⟨he, h1, h2, h3⟩ => ⟨⟨_, he⟩, h.wrote (by rw [bc_app]; exact h1) h2 h3⟩
theorem QSt.byte (h : QSt w0 W it s pos l) (c : UInt8) (hl : l.length ≤ 100000000) :
    Calls Tryd.prog 45 #[.pointer (some ⟨w0.heap.size, 0, none⟩), .int .u8 (c.toNat : Int)] W fun e w' => e = .returned .nilIface ∧ QSt w0 w' it s pos (l ++ [c]) :=
  (b_WriteByte w0.heap.size w0.heap.size _ _ W h.2.2.1 (by rw [bc_len]; omega) h.2.2.2.size).mono fun e w' ⟨he, h1, h2, h3⟩ => ⟨he, h.wrote (by rw [bc_app]; exact h1) h2 h3⟩
theorem QSt.rune (h : QSt w0 W it s pos l) (c : Nat) (hc : c < 128) (hl : l.length ≤ 100000000) :
    Calls Tryd.prog 48 #[.pointer (some ⟨w0.heap.size, 0, none⟩), .int .i32 (c : Int)] W fun e w' => (∃ r, e = .returned (.tuple #[.int .i64 r, .nilIface])) ∧ QSt w0 w' it s pos (l ++ [UInt8.ofNat c]) :=
  (b_WriteRune w0.heap.size w0.heap.size _ c W hc h.2.2.1 (by rw [bc_len]; omega) h.2.2.2.size).mono fun e w' ⟨r, he, h1, h2, h3⟩ => ⟨⟨r, he⟩, h.wrote (by
    rw [bc_app]
    have : Lib.byteCells [UInt8.ofNat c] = [.int .u8 (c : Int)] := by unfold Lib.byteCells; simp; omega
    rw [this]; exact h1) h2 h3⟩
end
theorem quote_escaped (c : Nat) (w : World) : Calls Tryd.prog 49 #[.int .i32 (c : Int)] w fun e w' => e = .returned (.bool (decide (c < 32) || decide (126 < c))) ∧ w = w' := by
  by_cases h1 : c < 32
  · have e1 : decide (c < 32) = true := by simpa using h1
    rw [e1, Bool.true_or]
    clear e1
    go_enter Tryd.func49, Tryd.ntmps49
    go_wp2
    go_ret
    exact ⟨rfl, rfl⟩
  · have e1 : decide (c < 32) = false := by simpa using h1
    rw [e1, Bool.false_or]
    by_cases h2 : 126 < c
    · have e2 : decide (126 < c) = true := by simpa using h2
      have e3 : decide ((126 : Int) < (c : Int)) = true := by rw [decide_eq_true_iff]; omega
      rw [e2]
      clear e1 e2
      go_enter Tryd.func49, Tryd.ntmps49
      go_wp2
      go_ret
      exact ⟨rfl, rfl⟩
    · have e2 : decide (126 < c) = false := by simpa using h2
      have e3 : decide ((126 : Int) < (c : Int)) = false := by rw [decide_eq_false_iff_not]; omega
      rw [e2]
      clear e1
      go_enter Tryd.func49, Tryd.ntmps49
      go_wp2
      go_ret
      refine ⟨?_, rfl⟩
      go_simp
def qAcc (s : ByteArray) (k : Nat) : List UInt8 := [34] ++ qMid (sSt s k).1
theorem qAcc_len (s : ByteArray) (k : Nat) : (qAcc s k).length ≤ 12 * s.size + 49 := by
  have h1 := qMid_len (sSt_mem s k)
  have h2 := (sSt_le s k).1
  have h3 := sSt_bd s k
  unfold qAcc
  rw [List.length_append, List.length_singleton]
  omega
theorem qAcc_next {s : ByteArray} {k : Nat} (h : (sSt s k).2 < s.size) : qAcc s (k + 1) = qAcc s k ++ qOne (sgN s (sSt s k).2) := by
  unfold qAcc
  rw [sSt_next h]
  simp only
  rw [qMid_snoc, List.append_assoc]
set_option maxHeartbeats 8000000 in
theorem quote_Quote (s : ByteArray) (w : World) (hs : s.size ≤ 200000) (hT : U8T w) (hZ : TzT w) :
    Calls Tryd.prog 31 #[.string s] w fun e w' => e = .returned (.string (strOf (quoteP s))) ∧ Below w.heap.size w w' := by
  have hs' : s.size ≤ 9223372036854775807 := by omega
  have HT := hid' hT
  have HZ := hid' hZ
  have HB0 := hid' (IsB.new_ w)
  have HL0 := hid' (bel_alloc (bel_refl w) (.cells #[.pointer none, .slice none 0 0] 74))
  have hqz := bL_len s
  clear hT hZ
  go_enter Tryd.func31, Tryd.ntmps31
  go_wp2_with fail
  refine (b_WriteByte w.heap.size w.heap.size _ 34 _ HB0.out (by simp) HL0.out.size).mono ?_
  rintro e w2 ⟨rfl, h1, h2, h3⟩
  have hws : w.heap.size < w2.heap.size := by
    obtain ⟨_, v, hb, _⟩ := h1
    exact (Array.getElem?_eq_some_iff.1 hb).1
  have HQ0 := hid' (show QSt w (w2.iter s 0) w2.heap.size s 0 [34] from ⟨by omega, It.new_ w2 s, IsB.below (UsedB.is h1) (bel_iter s 0), bel_then (HL0.out.trans h2) (bel_iter s 0)⟩)
  clear h1 h2 h3 HB0 HL0
  go_wp2
  generalize hit : w2.heap.size = it at *
  go_loopw [] (fun wr => ∃ k : Nat, QSt w wr it s (sSt s k).2 (qAcc s k)) (fun wr => s.size - wr.iterPos it)
  case atStart => exact ⟨0, HQ0.out⟩
  case round =>
    obtain ⟨k, hQ⟩ := hrel
    have hal := qAcc_len s k
    by_cases hlt : (sSt s k).2 < s.size
    · have hnxt := sSt_next hlt
      have hacc := qAcc_next hlt
      obtain ⟨p, hp⟩ : ∃ p, p = (sSt s k).2 := ⟨_, rfl⟩
      rw [← hp] at hlt hnxt hacc hQ
      have hnx : ∀ ty, (Instr.next (.pointer (some ⟨it, 0, none⟩)) true ty).run Tryd.prog wr = _ := fun ty => Lib.run_next_any_at wr it s p ty hQ.2.1 hlt
      have hsw := sgW_pos s p
      have hdl := dec_le s p
      have hQ2 := hQ.next (by omega) (p + sgW s p)
      have HMES := hid' (show ∀ W : World, It W it s (p + sgW s p) → s.size - W.iterPos it < s.size - wr.iterPos it from fun W hW => by
        have h1 : 1 ≤ sgW s p := hsw.1
        rw [hW.pos, hQ.2.1.pos]; omega)
      have HST := hid' (quote_stray s p _ hs hlt (HT.out.below hQ2.bel))
      have HQ2 := hid' hQ2
      have HNX := hid' (show (sSt s (k + 1)).2 = p + sgW s p by rw [hnxt])
      have HACC := hid' hacc
      obtain ⟨acc, hacc0⟩ : ∃ acc, acc = qAcc s k := ⟨_, rfl⟩
      rw [← hacc0] at HQ2 HACC hal
      change Hid (Calls _ _ _ (wr.iterAt it s (p + (Utf8.decode s p).2)) _) at HST
      have hq : (Utf8.decode s p).2 = sgW s p := rfl
      have hsgn : sgN s p = if strayAt s p = true then -(gb s p : Int) - 1 else ((Utf8.decode s p).1 : Int) := rfl
      rw [hq] at hnx HST
      obtain ⟨c, hc⟩ : ∃ c, c = (Utf8.decode s p).1 := ⟨_, rfl⟩
      rw [← hc] at hnx HST hdl hsgn
      have hpi : (p : Int) < (s.size : Int) := by omega
      clear hQ hQ2 hnxt hacc hacc0 hq hc hsw hp
      generalize sgW s p = q at *
      cases hst : strayAt s p with
      | true =>
        rw [hst] at HST hsgn
        rw [if_pos rfl] at hsgn
        have hg := gb_eq s p hlt
        have hgl := gb_lt s p
        have hgs : (s[p]'hlt).toNat = gb s p := hg.symm
        obtain ⟨g, hgg⟩ : ∃ g, g = gb s p := ⟨_, rfl⟩
        rw [← hgg] at hgs hgl hsgn
        have hone : qOne (sgN s p) = [92, 120] ++ hexL g := by
          unfold qOne
          rw [hsgn, if_pos (by omega)]
          congr 2
          omega
        have hxl := hexL_len 1 g (by omega)
        have HF := hid' (fun W hz => format16 g W (by omega) hz)
        have HONE := hid' hone
        have hxs : (strOf (hexL g)).size = (hexL g).length := rfl
        have hj : (2 : Int) + ((strOf (hexL g)).size : Int) ≤ 9223372036854775807 := by omega
        have hlen : acc.length + ((⟨#[92, 120]⟩ : ByteArray) ++ strOf (hexL g)).size ≤ 100000000 := by
          rw [ByteArray.size_append]
          show acc.length + (2 + (hexL g).length) ≤ _
          omega
        clear hst hsgn hg hgg hone hxs
        go_wp2_with (first
          | (go_at_call 46; refine HST.out.mono ?_; rintro e w3 ⟨rfl, hB3⟩; have hQ3 := HQ2.out.below hB3)
          | (go_at_call 47; refine (HF.out _ (HZ.out.below hQ3.bel)).mono ?_; rintro e w4 ⟨rfl, hB4⟩; have hQ4 := hQ3.below hB4))
        refine (hQ4.str _ hlen).mono ?_
        rintro e w5 ⟨⟨r, rfl⟩, hQ5⟩
        have hQ : QSt w w5 it s (p + q) (acc ++ qOne (sgN s p)) := by
          rw [HONE.out]
          have e9 : bL ((⟨#[92, 120]⟩ : ByteArray) ++ strOf (hexL g)) = [92, 120] ++ hexL g := by unfold bL strOf; rw [ByteArray.data_append]; simp
          rw [e9] at hQ5
          exact hQ5
        clear hQ3 hQ4 hQ5
        go_wp2
        go_roundw
        case rel => exact ⟨k + 1, by rw [HNX.out, HACC.out]; exact hQ⟩
        case measure => exact HMES.out _ hQ.2.1
      | false =>
        rw [hst] at HST hsgn
        rw [if_neg (by decide)] at hsgn
        by_cases h34 : c = 34 ∨ c = 92
        · have hone : qOne (sgN s p) = [92] ++ [UInt8.ofNat c] := by
            unfold qOne
            rw [hsgn, if_neg (by omega), if_pos (by omega)]
            simp
          have HONE := hid' hone
          have hc128 : c < 128 := by omega
          clear hst hsgn hone
          have hcc : ((c : Int) == 34) = true ∨ (((c : Int) == 34) = false ∧ ((c : Int) == 92) = true) := by
            rcases h34 with h | h
            · left; rw [beq_iff_eq]; omega
            · right; rw [beq_iff_eq, beq_eq_false_iff_ne]; omega
          clear h34
          rcases hcc with e1 | ⟨e1, e2⟩
          all_goals
            go_wp2_with fail
            refine HST.out.mono ?_
            rintro e w3 ⟨rfl, hB3⟩
            have hQ3 := HQ2.out.below hB3
            go_wp2_with fail
            refine (hQ3.byte 92 (by omega)).mono ?_
            rintro e w4 ⟨rfl, hQ4⟩
            go_wp2_with fail
            refine (hQ4.rune c hc128 (by rw [List.length_append, List.length_singleton]; omega)).mono ?_
            rintro e w5 ⟨⟨r, rfl⟩, hQ5⟩
            have hQ : QSt w w5 it s (p + q) (acc ++ qOne (sgN s p)) := by
              rw [HONE.out, ← List.append_assoc]; exact hQ5
            clear hQ3 hQ4 hQ5
            go_wp2
            go_roundw
            case rel => exact ⟨k + 1, by rw [HNX.out, HACC.out]; exact hQ⟩
            case measure => exact HMES.out _ hQ.2.1
        have e34 : ((c : Int) == 34) = false := by rw [beq_eq_false_iff_ne]; omega
        have e92 : ((c : Int) == 92) = false := by rw [beq_eq_false_iff_ne]; omega
        have HES := hid' (fun W => quote_escaped c W)
        by_cases hes : c < 32 ∨ 126 < c
        · have hone : qOne (sgN s p) = [92, 117, 123] ++ hexL c ++ [125] := by
            unfold qOne
            rw [hsgn, if_neg (by omega), if_neg (by omega), if_pos (by omega)]
            simp
          have hb : (decide (c < 32) || decide (126 < c)) = true := by
            rcases hes with h | h
            · rw [decide_eq_true h]; rfl
            · rw [decide_eq_true h, Bool.or_true]
          rw [hb] at HES
          have hxl := hexL_len 5 c (by omega)
          have HF := hid' (fun W hz => format16 c W (by omega) hz)
          have HONE := hid' hone
          have hxs : (strOf (hexL c)).size = (hexL c).length := rfl
          have hj : (3 : Int) + ((strOf (hexL c)).size : Int) + 1 ≤ 9223372036854775807 := by omega
          have hlen : acc.length + ((⟨#[92, 117, 123]⟩ : ByteArray) ++ strOf (hexL c) ++ ⟨#[125]⟩).size ≤ 100000000 := by
            rw [ByteArray.size_append, ByteArray.size_append]
            show acc.length + (3 + (hexL c).length + 1) ≤ _
            omega
          clear hst hsgn hone hxs hes hb h34
          go_wp2_with (first
            | (go_at_call 46; refine HST.out.mono ?_; rintro e w3 ⟨rfl, hB3⟩; have hQ3 := HQ2.out.below hB3)
            | (go_at_call 49; refine (HES.out _).mono ?_; rintro e w' ⟨rfl, rfl⟩)
            | (go_at_call 47; refine (HF.out _ (HZ.out.below hQ3.bel)).mono ?_; rintro e w4 ⟨rfl, hB4⟩; have hQ4 := hQ3.below hB4))
          refine (hQ4.str _ hlen).mono ?_
          rintro e w5 ⟨⟨r, rfl⟩, hQ5⟩
          have hQ : QSt w w5 it s (p + q) (acc ++ qOne (sgN s p)) := by
            rw [HONE.out]
            have e9 : bL ((⟨#[92, 117, 123]⟩ : ByteArray) ++ strOf (hexL c) ++ ⟨#[125]⟩) = [92, 117, 123] ++ hexL c ++ [125] := by unfold bL strOf; rw [ByteArray.data_append, ByteArray.data_append]; simp
            rw [e9] at hQ5
            exact hQ5
          clear hQ3 hQ4 hQ5
          go_wp2
          go_roundw
          case rel => exact ⟨k + 1, by rw [HNX.out, HACC.out]; exact hQ⟩
          case measure => exact HMES.out _ hQ.2.1
        · have hone : qOne (sgN s p) = [UInt8.ofNat c] := by
            unfold qOne
            rw [hsgn, if_neg (by omega), if_neg (by omega), if_neg (by omega)]
            simp
          have hb : (decide (c < 32) || decide (126 < c)) = false := by
            rw [decide_eq_false (by omega), decide_eq_false (by omega)]; rfl
          rw [hb] at HES
          have HONE := hid' hone
          have hc128 : c < 128 := by omega
          clear hst hsgn hone hes hb h34
          go_wp2_with (first
            | (go_at_call 46; refine HST.out.mono ?_; rintro e w3 ⟨rfl, hB3⟩; have hQ3 := HQ2.out.below hB3)
            | (go_at_call 49; refine (HES.out _).mono ?_; rintro e w' ⟨rfl, rfl⟩))
          refine (hQ3.rune c hc128 (by omega)).mono ?_
          rintro e w5 ⟨⟨r, rfl⟩, hQ5⟩
          have hQ : QSt w w5 it s (p + q) (acc ++ qOne (sgN s p)) := by
            rw [HONE.out]; exact hQ5
          clear hQ3 hQ5
          go_wp2
          go_roundw
          case rel => exact ⟨k + 1, by rw [HNX.out, HACC.out]; exact hQ⟩
          case measure => exact HMES.out _ hQ.2.1
    · have hnx : ∀ ty, (Instr.next (.pointer (some ⟨it, 0, none⟩)) true ty).run Tryd.prog wr = _ := fun ty => Lib.run_next_end_at wr it s _ ty hQ.2.1 hlt
      have he := sSt_end hlt
      have hqa : qAcc s k ++ [34] = quoteP s := by unfold qAcc quoteP; rw [he]
      have HQA := hid' hqa
      have HQ := hid' hQ
      clear hQ he hqa
      go_wp2_with fail
      refine (HQ.out.byte 34 (by omega)).mono ?_
      rintro e w3 ⟨rfl, hQ3⟩
      rw [HQA.out] at hQ3
      go_wp2_with fail
      refine (Tryd.Builder_String_any_k w.heap.size w.heap.size (quoteP s) _ hQ3.2.2.1 hQ3.bel.size).mono ?_
      rintro e w4 ⟨rfl, -, hb4, -⟩
      have hL := hQ3.bel.trans hb4
      clear hQ3 hb4
      go_wp2
      go_ret
      exact ⟨rfl, hL⟩
end Go.Proofs.YtioaijjmialdoaaDoor
