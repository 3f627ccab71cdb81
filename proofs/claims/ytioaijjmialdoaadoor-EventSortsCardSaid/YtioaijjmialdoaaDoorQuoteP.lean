
/- What stands at the front of what is between marks (quote.piece), walked. No condition but the tables and variables of Go's own library. -/
import Derived.Test.YtioaijjmialdoaaDoorParse16
import Derived.Test.YtioaijjmialdoaaDoorQuotePureB
import Derived.Test.YtioaijjmialdoaaDoorShelf
namespace Go.Proofs.YtioaijjmialdoaaDoor
set_option maxRecDepth 100000
set_option linter.unusedSimpArgs false
open Go.RowKit
set_option linter.unusedVariables false
set_option linter.unusedSimpArgs false

def ErT (w : World) : Prop := (∃ t p, w.cell? ⟨1, 0, none⟩ = some (.iface t p)) ∧ ∃ t p, w.cell? ⟨2, 0, none⟩ = some (.iface t p)
theorem ErT.below {w w' : World} (h : ErT w) (hb : Below w.heap.size w w') : ErT w' := by
  obtain ⟨⟨t, p, h1⟩, t', p', h2⟩ := h
  exact ⟨⟨t, p, (hb.cell (World.block_lt_of_cell? w _ h1)).trans h1⟩, t', p', (hb.cell (World.block_lt_of_cell? w _ h2)).trans h2⟩
def PuPub (mx : Nat) (l : List UInt8) (w : World) (e : Ending) (w' : World) : Prop :=
  (∃ n, puS mx l = some n ∧ e = .returned (.tuple #[.int .u64 (n : Int), .nilIface]) ∧ Below w.heap.size w w') ∨
  (∃ v t p, puS mx l = none ∧ e = .returned (.tuple #[.int .u64 v, .iface t p]) ∧ Below w.heap.size w w')
theorem PuPub.yes {mx : Nat} {l : List UInt8} {w w' : World} {n : Nat} (h : puS mx l = some n) (hb : Below w.heap.size w w') : PuPub mx l w (.returned (.tuple #[.int .u64 (n : Int), .nilIface])) w' := .inl ⟨n, h, rfl, hb⟩
theorem PuPub.no {mx : Nat} {l : List UInt8} {w w' : World} {v : Int} {t : TypeId} {p : Value} (h : puS mx l = none) (hb : Below w.heap.size w w') : PuPub mx l w (.returned (.tuple #[.int .u64 v, .iface t p])) w' := .inr ⟨v, t, p, h, rfl, hb⟩
theorem ppub_8 (s : ByteArray) (w : World) (hs : s.size ≤ 200000) (hE : ErT w) :
    Calls Tryd.prog 42 #[.string s, .int .i64 16, .int .i64 8] w (PuPub 255 (bL16 s) w) := by
  have hlim : s.size ≤ 281474976710656 := by omega
  have HE := hid' hE
  clear hE
  go_enter Tryd.func42, Tryd.ntmps42
  go_wp2_with fail
  refine (parse16_8 s _ hs).mono ?_
  rintro e w1 (⟨n, hn, rfl, hB⟩ | ⟨v, k, hn, hk, rfl, hB⟩)
  · have HN := hid' hn
    clear hn
    go_wp2
    go_ret2
    exact .yes HN.out hB
  · have HN := hid' hn
    obtain ⟨⟨t1, p1, h1⟩, t2, p2, h2⟩ := HE.out.below hB
    clear hn
    rcases hk with rfl | rfl
    · go_wp2_with fail
      refine (Tryd.strconv_toError_range _ s 16 8 _ w1 hlim h2 (.inr ⟨_, _, rfl⟩)).mono ?_
      rintro e w2 ⟨N, rfl, -, -, hB2⟩
      go_wp2
      go_ret2
      exact .no HN.out (bel_then hB hB2)
    · go_wp2_with fail
      refine (Tryd.strconv_toError_syntax _ s 16 8 _ w1 hlim h1 (.inr ⟨_, _, rfl⟩)).mono ?_
      rintro e w2 ⟨N, rfl, -, -, hB2⟩
      go_wp2
      go_ret2
      exact .no HN.out (bel_then hB hB2)
theorem ppub_31 (s : ByteArray) (w : World) (hs : s.size ≤ 200000) (hE : ErT w) :
    Calls Tryd.prog 42 #[.string s, .int .i64 16, .int .i64 31] w (PuPub 2147483647 (bL16 s) w) := by
  have hlim : s.size ≤ 281474976710656 := by omega
  have HE := hid' hE
  clear hE
  go_enter Tryd.func42, Tryd.ntmps42
  go_wp2_with fail
  refine (parse16_31 s _ hs).mono ?_
  rintro e w1 (⟨n, hn, rfl, hB⟩ | ⟨v, k, hn, hk, rfl, hB⟩)
  · have HN := hid' hn
    clear hn
    go_wp2
    go_ret2
    exact .yes HN.out hB
  · have HN := hid' hn
    obtain ⟨⟨t1, p1, h1⟩, t2, p2, h2⟩ := HE.out.below hB
    clear hn
    rcases hk with rfl | rfl
    · go_wp2_with fail
      refine (Tryd.strconv_toError_range _ s 16 31 _ w1 hlim h2 (.inr ⟨_, _, rfl⟩)).mono ?_
      rintro e w2 ⟨N, rfl, -, -, hB2⟩
      go_wp2
      go_ret2
      exact .no HN.out (bel_then hB hB2)
    · go_wp2_with fail
      refine (Tryd.strconv_toError_syntax _ s 16 31 _ w1 hlim h1 (.inr ⟨_, _, rfl⟩)).mono ?_
      rintro e w2 ⟨N, rfl, -, -, hB2⟩
      go_wp2
      go_ret2
      exact .no HN.out (bel_then hB hB2)
theorem idx_eq (l : List UInt8) (c : UInt8) : Lib.indexByte l c = if c ∈ l then (l.idxOf c : Int) else -1 := by
  induction l with
  | nil => rfl
  | cons b l ih =>
    unfold Lib.indexByte
    by_cases hb : b = c
    · subst hb
      simp
    · have h1 : (b == c) = false := by rw [beq_eq_false_iff_ne]; exact hb
      rw [h1, ih]
      have h2 : c ∈ b :: l ↔ c ∈ l := by
        rw [List.mem_cons]
        exact ⟨fun h => h.resolve_left (fun e => hb e.symm), .inr⟩
      by_cases hm : c ∈ l
      · rw [if_pos hm, if_pos (h2.2 hm), List.idxOf_cons, h1]
        have : ((l.idxOf c : Int) == -1) = false := by rw [beq_eq_false_iff_ne]; omega
        rw [this]
        simp
      · rw [if_neg hm, if_neg (fun h => hm (h2.1 h))]
        rfl
theorem enc_eq (n : Nat) : Utf8.encode (n : Int) = strOf (Lib.encodeRune (n : Int)) := by
  have hv := valid_iff n
  unfold Utf8.encode Lib.encodeRune strOf
  have key : ∀ c : Nat, (c = n ∧ (n < 55296 ∨ (57344 ≤ n ∧ n ≤ 1114111)) ∨ (c = 65533 ∧ ¬ (n < 55296 ∨ (57344 ≤ n ∧ n ≤ 1114111)))) →
      (let b (n : Nat) : UInt8 := UInt8.ofNat n
       if c < 0x80 then (⟨#[b c]⟩ : ByteArray)
       else if c < 0x800 then ⟨#[b (0xC0 + c / 64), b (0x80 + c % 64)]⟩
       else if c < 0x10000 then ⟨#[b (0xE0 + c / 4096), b (0x80 + c / 64 % 64), b (0x80 + c % 64)]⟩
       else ⟨#[b (0xF0 + c / 262144), b (0x80 + c / 4096 % 64), b (0x80 + c / 64 % 64), b (0x80 + c % 64)]⟩) = ⟨((Lib.encodeRuneZ (n : Int)).map fun x => x.toNat.toUInt8).toArray⟩ := by
    intro c hc
    simp only
    rcases hc with ⟨rfl, hok⟩ | ⟨rfl, hbad⟩
    · by_cases h1 : c < 128
      · rw [if_pos h1, Lib.encodeRuneZ_one (by omega) (by omega)]
        rfl
      · rw [if_neg h1]
        by_cases h2 : c < 2048
        · rw [if_pos h2, Lib.encodeRuneZ_two (by omega) (by omega)]
          have e1 : (192 + (c : Int) / 64).toNat = 192 + c / 64 := by omega
          have e2 : (128 + (c : Int) % 64).toNat = 128 + c % 64 := by omega
          simp only [List.map_cons, List.map_nil, e1, e2]
        · rw [if_neg h2]
          by_cases h3 : c < 65536
          · rw [if_pos h3, Lib.encodeRuneZ_three (by omega)]
            have e1 : (224 + (c : Int) / 4096).toNat = 224 + c / 4096 := by omega
            have e2 : (128 + (c : Int) / 64 % 64).toNat = 128 + c / 64 % 64 := by omega
            have e3 : (128 + (c : Int) % 64).toNat = 128 + c % 64 := by omega
            simp only [List.map_cons, List.map_nil, e1, e2, e3]
          · rw [if_neg h3, Lib.encodeRuneZ_four (by omega) (by omega)]
            have e0 : (240 + (c : Int) / 262144).toNat = 240 + c / 262144 := by omega
            have e1 : (128 + (c : Int) / 4096 % 64).toNat = 128 + c / 4096 % 64 := by omega
            have e2 : (128 + (c : Int) / 64 % 64).toNat = 128 + c / 64 % 64 := by omega
            have e3 : (128 + (c : Int) % 64).toNat = 128 + c % 64 := by omega
            simp only [List.map_cons, List.map_nil, e0, e1, e2, e3]
    · rw [Lib.encodeRuneZ_bad (by omega)]
      rfl
  refine key _ ?_
  by_cases h : n < 55296 ∨ (57344 ≤ n ∧ n ≤ 1114111)
  · left
    rw [if_pos (hv.2 h)]
    exact ⟨by simp, h⟩
  · right
    rw [if_neg (fun e => h (hv.1 e))]
    exact ⟨rfl, h⟩
theorem bL16_eq (s : ByteArray) : bL16 s = bL s := rfl
theorem getD_nat (s : ByteArray) (i : Nat) (h : i < s.size) : (bL s).getD i 0 = UInt8.ofNat (gb s i) := by
  have hl : i < (bL s).length := by rw [bL_len]; exact h
  rw [List.getD_eq_getElem?_getD, List.getElem?_eq_getElem hl, gb_eq s i h]
  simp
  rfl
theorem bL_ext (s : ByteArray) (i j : Nat) : bL (s.extract i j) = ((bL s).drop i).take (j - i) := by
  unfold bL
  rw [ByteArray.data_extract]
  simp [List.take_drop]
theorem bL_inj {a b : ByteArray} (h : bL a = bL b) : a = b := ByteArray.ext (Array.ext' h)
theorem bL_str (l : List UInt8) : bL (strOf l) = l := rfl
theorem strNe {a b : ByteArray} (h : ¬ a = b) : (a.toList == b.toList) = false := by
  rw [beq_eq_false_iff_ne]
  intro e
  rw [ByteArray.toList_eq, ByteArray.toList_eq] at e
  exact h (bL_inj e)
theorem strQ_ext (s : ByteArray) (i j : Nat) : strOf (((bL s).drop i).take (j - i)) = s.extract i j := bL_inj (by rw [bL_str, bL_ext])
theorem ownQ_one (w : World) (e : TypeId) (a : UInt8) : OwnC (w.alloc (.cells #[.int .u8 (a.toNat : Int)] e)) w.heap.size (.slice (some ⟨w.heap.size, 0, none⟩) 1 1) 1 ([a].map bcell) :=
  ⟨rfl, by unfold maxLen; omega, .inr ⟨w.heap.size, 1, rfl, Nat.le_refl _, by simp, Nat.le_refl _, fun j u hj => by
    rw [(Blk.new_ w e #[.int .u8 (a.toNat : Int)]).cell]
    simpa [bcell] using hj, fun j h1 h2 => by omega⟩⟩
theorem convQ_one (w : World) (n : Nat) (h : n < 256) : (convert 72 9 (.slice (some ⟨w.heap.size, 0, none⟩) 1 1)).run Tryd.prog (w.alloc (.cells #[.int .u8 (n : Int)] 5)) = .ok (.string (strOf [UInt8.ofNat n])) (w.alloc (.cells #[.int .u8 (n : Int)] 5)) := by
  have h1 := (ownQ_one w 5 (UInt8.ofNat n)).string (P := Tryd.prog) 72 9 5 (by kernel_rfl) (by kernel_rfl) (by kernel_rfl)
  have h2 : (UInt8.ofNat n).toNat = n := by simp; omega
  rwa [h2] at h1
theorem getD_is (s : ByteArray) (i : Nat) (h : i < s.size) (c : Nat) (hc : c < 256) : (bL s).getD i 0 = UInt8.ofNat c ↔ gb s i = c := by
  rw [getD_nat s i h]
  constructor
  · intro e
    have := congrArg UInt8.toNat e
    have hg := gb_lt s i
    simp at this; omega
  · intro e; rw [e]
theorem pieceP_nul {l : List UInt8} (h0 : l.getD 0 0 = 92) (h1 : ¬ (1 < l.length ∧ (l.getD 1 0 = 34 ∨ l.getD 1 0 = 92))) (h2 : ¬ (3 < l.length ∧ l.getD 1 0 = 120)) (h3 : l.take 3 ≠ [92, 117, 123]) : pieceP l = ([], 0) := by
  unfold pieceP; rw [if_neg (fun e => e h0), if_neg h1, if_neg h2, if_neg h3]
theorem pieceP_x {l : List UInt8} (h0 : l.getD 0 0 = 92) (h1 : ¬ (1 < l.length ∧ (l.getD 1 0 = 34 ∨ l.getD 1 0 = 92))) (h2 : 3 < l.length ∧ l.getD 1 0 = 120) : pieceP l = (match puS 255 ((l.drop 2).take 2) with | some n => ([UInt8.ofNat n], 4) | none => ([], 0)) := by
  unfold pieceP; rw [if_neg (fun e => e h0), if_neg h1, if_pos h2] <;> rfl
theorem pieceP_u {l : List UInt8} (h0 : l.getD 0 0 = 92) (h1 : ¬ (1 < l.length ∧ (l.getD 1 0 = 34 ∨ l.getD 1 0 = 92))) (h2 : ¬ (3 < l.length ∧ l.getD 1 0 = 120)) (h3 : l.take 3 = [92, 117, 123]) :
    pieceP l = if 125 ∈ l then (match puS 2147483647 ((l.drop 3).take (l.idxOf 125 - 3)) with | some n => (Lib.encodeRune n, l.idxOf 125 + 1) | none => ([], 0)) else ([], 0) := by
  unfold pieceP; rw [if_neg (fun e => e h0), if_neg h1, if_neg h2, if_pos h3] <;> rfl
theorem hasP_iff (s : ByteArray) : Lib.hasPrefix s.data.toList [92, 117, 123] = decide ((bL s).take 3 = [92, 117, 123]) := by
  unfold Lib.hasPrefix
  rw [Bool.eq_iff_iff, List.isPrefixOf_iff_prefix, decide_eq_true_iff, List.prefix_iff_eq_take]
  exact ⟨fun h => h.symm, fun h => h.symm⟩
theorem idx_ge3 {l : List UInt8} (h3 : l.take 3 = [92, 117, 123]) (hm : 125 ∈ l) : 3 ≤ l.idxOf 125 ∧ l.idxOf 125 < l.length := by
  refine ⟨?_, List.idxOf_lt_length_of_mem hm⟩
  have hl : l = [92, 117, 123] ++ l.drop 3 := by rw [← h3, List.take_append_drop]
  rw [hl]
  simp [List.idxOf_cons]
theorem conv_i32 (n : Nat) (h : n ≤ 2147483647) (W : World) : (convert 87 21 (.int .u64 (n : Int))).run Tryd.prog W = .ok (.int .i32 (n : Int)) W := by
  have := run_convert_int (P := Tryd.prog) W 87 21 .u64 (n : Int) (by kernel_rfl) (by kernel_rfl)
  rw [this, show Tryd.prog.intKind 21 = .i32 by kernel_rfl]
  have hw : IntKind.i32.wrap (n : Int) = (n : Int) := by simp [IntKind.wrap, IntKind.bits, IntKind.signed]; omega
  rw [hw]
theorem conv_str (n : Nat) (W : World) : (convert 21 9 (.int .i32 (n : Int))).run Tryd.prog W = .ok (.string (strOf (Lib.encodeRune (n : Int)))) W := by
  rw [run_convert_int_string W 21 9 .i32 (n : Int) (by kernel_rfl) (by kernel_rfl), enc_eq]
set_option maxHeartbeats 8000000 in
theorem quote_piece (s : ByteArray) (w : World) (hs : s.size ≤ 200000) (h0 : 0 < s.size) (hE : ErT w) :
    Calls Tryd.prog 30 #[.string s] w fun e w' => e = .returned (.tuple #[.string (strOf (pieceP (bL s)).1), .int .i64 ((pieceP (bL s)).2 : Int)]) ∧ Below w.heap.size w w' := by
  have hs' : s.size ≤ 9223372036854775807 := by omega
  have HE := hid' hE
  have hb0 := bel_refl w
  have hg0 := gb_eq s 0 h0
  have hgs0 : (s[0]'h0).toNat = gb s 0 := hg0.symm
  have h92 := getD_is s 0 h0 92 (by omega)
  have hgl0 := gb_lt s 0
  clear hE
  by_cases hc0 : gb s 0 = 92
  case neg =>
    have hp : pieceP (bL s) = ((bL s).take 1, 1) := by unfold pieceP; rw [if_pos (show (bL s).getD 0 0 ≠ 92 from fun e => hc0 (h92.1 e))]
    have hx : strOf ((bL s).take 1) = s.extract 0 1 := by have := strQ_ext s 0 1; simpa using this
    rw [hp]
    simp only
    rw [hx]
    have hne : ((gb s 0 : Int) != 92) = true := by rw [bne_iff_ne]; omega
    have h1i : (1 : Int) ≤ (s.size : Int) := by omega
    clear hp hx h92 hc0 hg0
    generalize gb s 0 = g at *
    go_enter Tryd.func30, Tryd.ntmps30
    go_wp2
    go_ret2
    exact ⟨rfl, hb0⟩
  have hl0 : (bL s).getD 0 0 = 92 := h92.2 hc0
  rw [hc0] at hgs0
  have hlen := bL_len s
  clear hg0 h92 hgl0 hc0
  by_cases hsz : s.size ≤ 1
  · have hn1 : ¬ (1 < (bL s).length ∧ ((bL s).getD 1 0 = 34 ∨ (bL s).getD 1 0 = 92)) := fun e => by omega
    have hn2 : ¬ (3 < (bL s).length ∧ (bL s).getD 1 0 = 120) := fun e => by omega
    have hd1 : decide ((1 : Int) < (s.size : Int)) = false := by rw [decide_eq_false_iff_not]; omega
    have hd3 : decide ((3 : Int) < (s.size : Int)) = false := by rw [decide_eq_false_iff_not]; omega
    clear hlen
    have HPX := hid' (fun W => ((Tryd.strings_HasPrefix s ⟨#[92, 117, 123]⟩ W).mono (fun e w' h => (⟨h.1, h.2.symm⟩ : e = .returned (.bool (Lib.hasPrefix s.data.toList [92, 117, 123])) ∧ W = w'))))
    rw [hasP_iff] at HPX
    by_cases h3 : (bL s).take 3 = [92, 117, 123]
    case neg =>
      have hp := pieceP_nul hl0 hn1 hn2 h3
      rw [hp]
      rw [decide_eq_false h3] at HPX
      clear hp h3 hl0 hn1 hn2
      go_enter Tryd.func30, Tryd.ntmps30
      go_wp2_with (go_at_call 43; refine (HPX.out _).mono ?_; rintro e w' ⟨rfl, rfl⟩)
      go_ret2
      exact ⟨rfl, hb0⟩
    have hp := pieceP_u hl0 hn1 hn2 h3
    rw [decide_eq_true h3] at HPX
    have HIX := hid' (fun W => ((Tryd.strings_IndexByte s 125 W).mono (fun e w' h => (⟨h.1, h.2.symm⟩ : e = .returned (.int .i64 (Lib.indexByte (bL s) 125)) ∧ W = w'))))
    rw [idx_eq] at HIX
    by_cases hm : (125 : UInt8) ∈ bL s
    case neg =>
      rw [if_neg hm] at HIX hp
      rw [hp]
      clear hp h3 hm hl0 hn1 hn2
      go_enter Tryd.func30, Tryd.ntmps30
      go_wp2_with (first | (go_at_call 43; refine (HPX.out _).mono ?_; rintro e w' ⟨rfl, rfl⟩) | (go_at_call 44; refine (HIX.out _).mono ?_; rintro e w' ⟨rfl, rfl⟩))
      go_ret2
      exact ⟨rfl, hb0⟩
    obtain ⟨hj3, hjl⟩ := idx_ge3 h3 hm
    rw [if_pos hm] at HIX hp
    rw [bL_len] at hjl
    obtain ⟨j, hj⟩ : ∃ j, j = (bL s).idxOf 125 := ⟨_, rfl⟩
    rw [← hj] at HIX hp hj3 hjl
    exfalso; omega
  have h1 : 1 < s.size := by omega
  have hg1 := gb_eq s 1 h1
  have hgs1 : (s[1]'h1).toNat = gb s 1 := hg1.symm
  have i34 := getD_is s 1 h1 34 (by omega)
  have i92 := getD_is s 1 h1 92 (by omega)
  have i120 := getD_is s 1 h1 120 (by omega)
  have hgl1 := gb_lt s 1
  clear hg1
  by_cases hA : gb s 1 = 34 ∨ gb s 1 = 92
  · have hp : pieceP (bL s) = (((bL s).drop 1).take 1, 2) := by
      unfold pieceP
      rw [if_neg (fun e => e hl0), if_pos ⟨by omega, hA.imp (fun h => i34.2 h) (fun h => i92.2 h)⟩]
    have hx : strOf (((bL s).drop 1).take 1) = s.extract 1 2 := strQ_ext s 1 2
    rw [hp]
    simp only
    rw [hx]
    have h2i : (2 : Int) ≤ (s.size : Int) := by omega
    clear hp hx i34 i92 i120 hl0 hlen hgl1
    rcases hA with h | h
    all_goals
      rw [h] at hgs1
      clear h
      go_enter Tryd.func30, Tryd.ntmps30
      go_wp2
      go_ret2
      exact ⟨rfl, hb0⟩
  have hn1 : ¬ (1 < (bL s).length ∧ ((bL s).getD 1 0 = 34 ∨ (bL s).getD 1 0 = 92)) := fun e => hA (e.2.imp (fun h => i34.1 h) (fun h => i92.1 h))
  have e34 : ((gb s 1 : Int) == 34) = false := by rw [beq_eq_false_iff_ne]; omega
  have e92 : ((gb s 1 : Int) == 92) = false := by rw [beq_eq_false_iff_ne]; omega
  by_cases h3s : s.size ≤ 3
  · have hn2 : ¬ (3 < (bL s).length ∧ (bL s).getD 1 0 = 120) := fun e => by omega
    have hd3 : decide ((3 : Int) < (s.size : Int)) = false := by rw [decide_eq_false_iff_not]; omega
    clear hlen i34 i92 i120 hA
    generalize gb s 1 = g1 at *
    have HPX := hid' (fun W => ((Tryd.strings_HasPrefix s ⟨#[92, 117, 123]⟩ W).mono (fun e w' h => (⟨h.1, h.2.symm⟩ : e = .returned (.bool (Lib.hasPrefix s.data.toList [92, 117, 123])) ∧ W = w'))))
    rw [hasP_iff] at HPX
    by_cases h3 : (bL s).take 3 = [92, 117, 123]
    case neg =>
      have hp := pieceP_nul hl0 hn1 hn2 h3
      rw [hp]
      rw [decide_eq_false h3] at HPX
      clear hp h3 hl0 hn1 hn2
      go_enter Tryd.func30, Tryd.ntmps30
      go_wp2_with (go_at_call 43; refine (HPX.out _).mono ?_; rintro e w' ⟨rfl, rfl⟩)
      go_ret2
      exact ⟨rfl, hb0⟩
    have hp := pieceP_u hl0 hn1 hn2 h3
    rw [decide_eq_true h3] at HPX
    have HIX := hid' (fun W => ((Tryd.strings_IndexByte s 125 W).mono (fun e w' h => (⟨h.1, h.2.symm⟩ : e = .returned (.int .i64 (Lib.indexByte (bL s) 125)) ∧ W = w'))))
    rw [idx_eq] at HIX
    by_cases hm : (125 : UInt8) ∈ bL s
    case neg =>
      rw [if_neg hm] at HIX hp
      rw [hp]
      clear hp h3 hm hl0 hn1 hn2
      go_enter Tryd.func30, Tryd.ntmps30
      go_wp2_with (first | (go_at_call 43; refine (HPX.out _).mono ?_; rintro e w' ⟨rfl, rfl⟩) | (go_at_call 44; refine (HIX.out _).mono ?_; rintro e w' ⟨rfl, rfl⟩))
      go_ret2
      exact ⟨rfl, hb0⟩
    obtain ⟨hj3, hjl⟩ := idx_ge3 h3 hm
    rw [if_pos hm] at HIX hp
    rw [bL_len] at hjl
    obtain ⟨j, hj⟩ : ∃ j, j = (bL s).idxOf 125 := ⟨_, rfl⟩
    rw [← hj] at HIX hp hj3 hjl
    exfalso; omega
  by_cases hX : gb s 1 = 120
  · have hp := pieceP_x hl0 hn1 ⟨by omega, i120.2 hX⟩
    have hps := ppub_8 (s.extract 2 4) w (by rw [ByteArray.size_extract]; omega) HE.out
    rw [bL16_eq, bL_ext] at hps
    have HPS := hid' hps
    have h4i : (4 : Int) ≤ (s.size : Int) := by omega
    rw [hX] at hgs1
    clear hps i34 i92 i120 hA hn1 hl0 hlen hX hgl1 e34 e92
    cases hpu : puS 255 (((bL s).drop 2).take 2) with
    | none =>
      rw [hpu] at hp
      simp only at hp
      rw [hp]
      have HPU := hid' hpu
      clear hp hpu
      go_enter Tryd.func30, Tryd.ntmps30
      go_wp2_with fail
      refine (HPS.out).mono ?_
      rintro e w1 (⟨n, hn, rfl, hB⟩ | ⟨v, t, p, hn, rfl, hB⟩)
      · exact absurd (HPU.out.symm.trans hn) (by simp)
      · clear hn
        go_wp2
        go_ret2
        exact ⟨rfl, hB⟩
    | some n =>
      rw [hpu] at hp
      simp only at hp
      rw [hp]
      have hnle := puS_le hpu
      have HPU := hid' hpu
      have HCV := hid' (fun W => convQ_one W n (by omega))
      clear hp hpu
      go_enter Tryd.func30, Tryd.ntmps30
      go_wp2_with fail
      refine (HPS.out).mono ?_
      rintro e w1 (⟨n', hn, rfl, hB⟩ | ⟨v, t, p, hn, rfl, hB⟩)
      · rw [HPU.out] at hn
        obtain rfl := Option.some.inj hn
        clear hn
        have hcv := HCV.out w1
        go_wp2
        go_ret2
        exact ⟨rfl, bel_alloc hB _⟩
      · exact absurd (HPU.out.symm.trans hn) (by simp)
  have hn2 : ¬ (3 < (bL s).length ∧ (bL s).getD 1 0 = 120) := fun e => hX (i120.1 e.2)
  have e120 : ((gb s 1 : Int) == 120) = false := by rw [beq_eq_false_iff_ne]; omega
  clear hlen i34 i92 i120 hA hX
  generalize gb s 1 = g1 at *
  have HPX := hid' (fun W => ((Tryd.strings_HasPrefix s ⟨#[92, 117, 123]⟩ W).mono (fun e w' h => (⟨h.1, h.2.symm⟩ : e = .returned (.bool (Lib.hasPrefix s.data.toList [92, 117, 123])) ∧ W = w'))))
  rw [hasP_iff] at HPX
  by_cases h3 : (bL s).take 3 = [92, 117, 123]
  case neg =>
    have hp := pieceP_nul hl0 hn1 hn2 h3
    rw [hp]
    rw [decide_eq_false h3] at HPX
    clear hp h3 hl0 hn1 hn2
    go_enter Tryd.func30, Tryd.ntmps30
    go_wp2_with (go_at_call 43; refine (HPX.out _).mono ?_; rintro e w' ⟨rfl, rfl⟩)
    go_ret2
    exact ⟨rfl, hb0⟩
  have hp := pieceP_u hl0 hn1 hn2 h3
  rw [decide_eq_true h3] at HPX
  have HIX := hid' (fun W => ((Tryd.strings_IndexByte s 125 W).mono (fun e w' h => (⟨h.1, h.2.symm⟩ : e = .returned (.int .i64 (Lib.indexByte (bL s) 125)) ∧ W = w'))))
  rw [idx_eq] at HIX
  by_cases hm : (125 : UInt8) ∈ bL s
  case neg =>
    rw [if_neg hm] at HIX hp
    rw [hp]
    clear hp h3 hm hl0 hn1 hn2
    go_enter Tryd.func30, Tryd.ntmps30
    go_wp2_with (first | (go_at_call 43; refine (HPX.out _).mono ?_; rintro e w' ⟨rfl, rfl⟩) | (go_at_call 44; refine (HIX.out _).mono ?_; rintro e w' ⟨rfl, rfl⟩))
    go_ret2
    exact ⟨rfl, hb0⟩
  obtain ⟨hj3, hjl⟩ := idx_ge3 h3 hm
  rw [if_pos hm] at HIX hp
  rw [bL_len] at hjl
  obtain ⟨j, hj⟩ : ∃ j, j = (bL s).idxOf 125 := ⟨_, rfl⟩
  rw [← hj] at HIX hp hj3 hjl
  have hps := ppub_31 (s.extract 3 j) w (by rw [ByteArray.size_extract]; omega) HE.out
  rw [bL16_eq, bL_ext] at hps
  have HPS := hid' hps
  have hji : (j : Int) ≤ (s.size : Int) := by omega
  have hj3i : (3 : Int) ≤ (j : Int) := by omega
  clear hps h3 hm hl0 hn1 hn2 hj
  cases hpu : puS 2147483647 (((bL s).drop 3).take (j - 3)) with
  | none =>
    rw [hpu] at hp
    simp only at hp
    rw [hp]
    have HPU := hid' hpu
    clear hp hpu
    go_enter Tryd.func30, Tryd.ntmps30
    go_wp2_with (first | (go_at_call 43; refine (HPX.out _).mono ?_; rintro e w' ⟨rfl, rfl⟩) | (go_at_call 44; refine (HIX.out _).mono ?_; rintro e w' ⟨rfl, rfl⟩))
    refine (HPS.out).mono ?_
    rintro e w1 (⟨n, hn, rfl, hB⟩ | ⟨v, t, p, hn, rfl, hB⟩)
    · exact absurd (HPU.out.symm.trans hn) (by simp)
    · clear hn
      go_wp2
      go_ret2
      exact ⟨rfl, hB⟩
  | some n =>
    rw [hpu] at hp
    simp only at hp
    rw [hp]
    have hnle := puS_le hpu
    have HPU := hid' hpu
    simp only
    have HCV := hid' (fun W => conv_i32 n hnle W)
    obtain ⟨X, hX⟩ : ∃ X, X = strOf (Lib.encodeRune (n : Int)) := ⟨_, rfl⟩
    have HCS := hid' (fun W => conv_str n W)
    rw [← hX] at HCS
    rw [← hX]
    have HJJ := hid' (show ((j + 1 : Nat) : Int) = (j : Int) + 1 by omega)
    clear hp hpu hX hnle
    go_enter Tryd.func30, Tryd.ntmps30
    go_wp2_with (first | (go_at_call 43; refine (HPX.out _).mono ?_; rintro e w' ⟨rfl, rfl⟩) | (go_at_call 44; refine (HIX.out _).mono ?_; rintro e w' ⟨rfl, rfl⟩))
    refine (HPS.out).mono ?_
    rintro e w1 (⟨n', hn, rfl, hB⟩ | ⟨v, t, p, hn, rfl, hB⟩)
    · rw [HPU.out] at hn
      obtain rfl := Option.some.inj hn
      clear hn
      have hcv := HCV.out
      have hcs := HCS.out
      go_wp2
      go_ret2
      refine ⟨?_, hB⟩
      rw [HJJ.out]; rfl
    · exact absurd (HPU.out.symm.trans hn) (by simp)
end Go.Proofs.YtioaijjmialdoaaDoor
