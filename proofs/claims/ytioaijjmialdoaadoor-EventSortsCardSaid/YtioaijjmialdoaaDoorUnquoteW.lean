
/- What is between marks, read (quote.Unquote), walked. No condition but the tables and variables of Go's own library. -/
import Derived.Test.YtioaijjmialdoaaDoorQuoteW
import Derived.Lib.RuneBytes
namespace Go.Proofs.YtioaijjmialdoaaDoor
set_option maxRecDepth 100000
set_option linter.unusedSimpArgs false
open Go.RowKit
set_option linter.unusedVariables false
set_option linter.unusedSimpArgs false

theorem enc_le4 (n : Int) : (Lib.encodeRune n).length ≤ 4 := by
  unfold Lib.encodeRune
  rw [List.length_map]
  exact (Lib.encodeRuneZ_length n).2
theorem piece_le (l : List UInt8) (h : l ≠ []) : (pieceP l).1.length ≤ (pieceP l).2 ∧ (pieceP l).2 ≤ l.length := by
  have hl : 1 ≤ l.length := by cases l with | nil => exact absurd rfl h | cons a l => simp
  unfold pieceP
  split
  · constructor
    · show (l.take 1).length ≤ 1
      rw [List.length_take]; omega
    · exact hl
  · split
    · rename_i h1
      constructor
      · show ((l.drop 1).take 1).length ≤ 2
        rw [List.length_take]; omega
      · exact h1.1
    · split
      · rename_i h1
        split
        · exact ⟨Nat.le_add_left 1 3, h1.1⟩
        · exact ⟨by decide, Nat.zero_le _⟩
      · split
        · rename_i h3
          split
          · rename_i hm
            have hi := idx_ge3 h3 hm
            split
            · have := enc_le4 (by assumption : Nat)
              rename_i n _
              have := enc_le4 (n : Int)
              exact ⟨by simp only; omega, hi.2⟩
            · exact ⟨by decide, Nat.zero_le _⟩
          · exact ⟨by decide, Nat.zero_le _⟩
        · exact ⟨by decide, Nat.zero_le _⟩
def USt (w0 W : World) (l : List UInt8) : Prop := IsB w0.heap.size w0.heap.size (Lib.byteCells l) W ∧ Below w0.heap.size w0 W
section
variable {w0 W W' : World} {l : List UInt8}
theorem USt.below (h : USt w0 W l) (hb : Below W.heap.size W W') : USt w0 W' l := ⟨IsB.below h.1 hb, bel_then h.2 hb⟩
theorem USt.new_ (w : World) : USt w (w.alloc (.cells #[.pointer none, .slice none 0 0] 74)) [] := ⟨IsB.new_ w, bel_alloc (bel_refl w) _⟩
theorem USt.str (h : USt w0 W l) (x : ByteArray) (hl : l.length + x.size ≤ 100000000) :
    Calls Tryd.prog 24 #[.pointer (some ⟨w0.heap.size, 0, none⟩), .string x] W fun e w' => (∃ r, e = .returned (.tuple #[.int .i64 r, .nilIface])) ∧ USt w0 w' (l ++ bL x) :=
  (b_WriteString w0.heap.size w0.heap.size _ x W h.1 (by rw [bc_len]; omega) h.2.size).mono fun e w' ⟨he, h1, h2, h3⟩ => ⟨⟨_, he⟩, UsedB.is (by rw [bc_app]; exact h1), h.2.trans h2⟩
theorem USt.string (h : USt w0 W l) :
    Calls Tryd.prog 25 #[.pointer (some ⟨w0.heap.size, 0, none⟩)] W fun e w' => e = .returned (.string (strOf l)) ∧ USt w0 w' l :=
  (Tryd.Builder_String_any_k w0.heap.size w0.heap.size l _ h.1 h.2.size).mono fun e w' h2 => ⟨h2.1, by
    obtain ⟨-, h3, h4, -⟩ := h2
    exact ⟨h3, h.2.trans h4⟩⟩
end
def strSize (v : Value) : Nat := match v with | .string s => s.size | _ => 0
def uS (o : Option (List UInt8)) : ByteArray := match o with | some x => strOf x | none => ⟨#[]⟩
def uB (o : Option (List UInt8)) : Bool := o.isSome
def uRes (q : List UInt8) (R : Option (List UInt8)) : Option (List UInt8) := match R with | none => none | some x => if quoteP ⟨x.toArray⟩ = q then some x else none
theorem unqP_no {q : ByteArray} (h : q.size < 2 ∨ gb q 0 ≠ 34 ∨ gb q (q.size - 1) ≠ 34) : unqP (bL q) = none := by
  unfold unqP
  rw [if_pos]
  rw [bL_len]
  by_cases h2 : q.size < 2
  · exact .inl h2
  · rcases h with h | h | h
    · exact absurd h h2
    · exact .inr (.inl fun e => h ((getD_is q 0 (by omega) 34 (by decide)).1 e))
    · exact .inr (.inr fun e => h ((getD_is q _ (by omega) 34 (by decide)).1 e))
theorem unqP_go {q : ByteArray} (h2 : ¬ q.size < 2) (h0 : gb q 0 = 34) (h1 : gb q (q.size - 1) = 34) : unqP (bL q) = uRes (bL q) (unqGo q.size [] (bL (q.extract 1 (q.size - 1)))) := by
  unfold unqP
  rw [if_neg, bL_len, bL_ext, Nat.sub_sub]
  · rfl
  · rw [bL_len]
    rintro (h | h | h)
    · exact h2 h
    · exact h ((getD_is q 0 (by omega) 34 (by decide)).2 h0)
    · exact h ((getD_is q _ (by omega) 34 (by decide)).2 h1)
theorem unqGo_end (f : Nat) (acc : List UInt8) : unqGo f acc [] = some acc := by
  cases f <;> rfl
set_option maxHeartbeats 8000000 in
theorem quote_Unquote (q : ByteArray) (w : World) (hs : q.size ≤ 40000) (hT : U8T w) (hZ : TzT w) (hE : ErT w) :
    Calls Tryd.prog 21 #[.string q] w fun e w' => e = .returned (.tuple #[.string (uS (unqP (bL q))), .bool (uB (unqP (bL q)))]) ∧ Below w.heap.size w w' := by
  have hs' : q.size ≤ 9223372036854775807 := by omega
  by_cases h2 : q.size < 2
  · have hno := unqP_no (q := q) (.inl h2)
    have hN := hno
    have hb0 := bel_refl w
    have h9 : uS (unqP (bL q)) = ⟨#[]⟩ ∧ uB (unqP (bL q)) = false := by rw [hN]; exact ⟨rfl, rfl⟩
    rw [h9.1, h9.2]
    clear hN h9 hno
    go_enter Tryd.func21, Tryd.ntmps21
    go_wp2
    go_ret2
    exact ⟨rfl, hb0⟩
  · have hgs0 : (q[0]'(by omega)).toNat = gb q 0 := (gb_eq q 0 (by omega)).symm
    obtain ⟨m, hm⟩ : ∃ m, m = q.size - 1 := ⟨_, rfl⟩
    have hmi : (q.size : Int) - 1 = (m : Int) := by omega
    have hmn : m < q.size := by omega
    have hml : m + 1 = q.size := by omega
    have hmq : (m : Int) < (q.size : Int) := by omega
    have hno : gb q 0 ≠ 34 ∨ gb q m ≠ 34 → unqP (bL q) = none := by rw [hm]; exact fun h => unqP_no (.inr h)
    have hgo := fun h0 h1 => unqP_go h2 h0 (show gb q (q.size - 1) = 34 by rw [← hm]; exact h1)
    rw [← hm] at hgo
    clear hm
    have hgs1 : (q[m]'hmn).toNat = gb q m := (gb_eq q m hmn).symm
    obtain ⟨a, ha⟩ : ∃ a, a = gb q 0 := ⟨_, rfl⟩
    obtain ⟨b, hb⟩ : ∃ b, b = gb q m := ⟨_, rfl⟩
    rw [← ha] at hgs0 hno hgo
    rw [← hb] at hgs1 hno hgo
    have hal := gb_lt q 0
    have hbl := gb_lt q m
    rw [← ha] at hal
    rw [← hb] at hbl
    clear ha hb
    by_cases h0 : a = 34
    · by_cases h1 : b = 34
      · have HGO := hid' (hgo h0 h1)
        clear hgo hno
        have e0 : ((a : Int) != 34) = false := by rw [h0]; rfl
        have e1 : ((b : Int) != 34) = false := by rw [h1]; rfl
        obtain ⟨R, hR⟩ : ∃ R, R = unqGo q.size [] (bL (q.extract 1 m)) := ⟨_, rfl⟩
        rw [← hR] at HGO
        have hsz : (q.extract 1 m).size ≤ q.size := by rw [ByteArray.size_extract]; omega
        have HR := hid' hR
        have HT := hid' hT
        have HZ := hid' hZ
        have HE := hid' hE
        have HU0 := hid' (USt.new_ w)
        clear hR hT hZ hE h0 h1
        have hm1 : (1 : Int) ≤ (m : Int) := by omega
        have hmle : (m : Int) ≤ (q.size : Int) := by omega
        go_enter Tryd.func21, Tryd.ntmps21
        go_wp2
        go_loopw [5] (fun v5 wr => ∃ (r : ByteArray) (acc : List UInt8) (f : Nat), v5 = .string r ∧ USt w wr acc ∧ unqGo f acc (bL r) = R ∧ r.size ≤ f ∧ acc.length + r.size ≤ q.size) (fun v5 _ => strSize v5)
        case atStart => exact ⟨q.extract 1 m, [], q.size, rfl, HU0.out, HR.out.symm, hsz, by simpa using hsz⟩
        case round =>
          obtain ⟨r, acc, f, rfl, hU, hun, hrf, hal'⟩ := hrel
          by_cases hr0 : r.size = 0
          · have hre : r = ⟨#[]⟩ := ByteArray.ext (Array.eq_empty_of_size_eq_zero hr0)
            subst hre
            have hun2 : unqGo f acc [] = R := hun
            rw [unqGo_end] at hun2
            have HRR := hid' hun2
            have HU := hid' hU
            clear hun hU hun2
            obtain ⟨x, hx⟩ : ∃ x, x = strOf acc := ⟨_, rfl⟩
            have hxs : x.size ≤ 200000 := by
              rw [hx]
              show acc.length ≤ _
              have h0 : (⟨#[]⟩ : ByteArray).size = 0 := rfl
              rw [h0] at hal'
              omega
            have HQ := hid' (fun W hT hZ => quote_Quote x W hxs hT hZ)
            have HST := hid' (fun W h => (show Calls _ _ _ W _ from USt.string (w0 := w) (W := W) (l := acc) h))
            obtain ⟨t, ht⟩ : ∃ t, t = strOf (quoteP x) := ⟨_, rfl⟩
            rw [← hx] at HST
            rw [← ht] at HQ
            by_cases htq : t = q
            · have hfin : uS (unqP (bL q)) = x ∧ uB (unqP (bL q)) = true := by
                rw [HGO.out, ← HRR.out]
                show uS (if quoteP ⟨acc.toArray⟩ = bL q then some acc else none) = _ ∧ uB (if quoteP ⟨acc.toArray⟩ = bL q then some acc else none) = _
                rw [if_pos (by rw [← htq, ht, bL_str, hx]; rfl), hx]
                exact ⟨rfl, rfl⟩
              have HF := hid' hfin
              clear hfin ht hx hxs
              subst htq
              go_wp2_with fail
              refine (HST.out _ HU.out).mono ?_
              rintro e w2 ⟨rfl, hU2⟩
              go_wp2_with fail
              refine (HQ.out _ (HT.out.below hU2.2) (HZ.out.below hU2.2)).mono ?_
              rintro e w3 ⟨rfl, hB3⟩
              have hU3 := hU2.below hB3
              go_wp2_with fail
              refine (HST.out _ hU3).mono ?_
              rintro e w4 ⟨rfl, hU4⟩
              go_wp2
              go_ret2
              exact ⟨by rw [HF.out.1, HF.out.2]; rfl, hU4.2⟩
            · have hfin : uS (unqP (bL q)) = ⟨#[]⟩ ∧ uB (unqP (bL q)) = false := by
                rw [HGO.out, ← HRR.out]
                show uS (if quoteP ⟨acc.toArray⟩ = bL q then some acc else none) = _ ∧ uB (if quoteP ⟨acc.toArray⟩ = bL q then some acc else none) = _
                rw [if_neg (by
                  intro h
                  apply htq
                  rw [ht, hx]
                  apply bL_inj
                  rw [bL_str]; exact h)]
                exact ⟨rfl, rfl⟩
              have HF := hid' hfin
              have hne := strNe htq
              clear hfin ht hx hxs htq
              go_wp2_with fail
              refine (HST.out _ HU.out).mono ?_
              rintro e w2 ⟨rfl, hU2⟩
              go_wp2_with fail
              refine (HQ.out _ (HT.out.below hU2.2) (HZ.out.below hU2.2)).mono ?_
              rintro e w3 ⟨rfl, hB3⟩
              have hU3 := hU2.below hB3
              go_wp2
              go_ret2
              exact ⟨by rw [HF.out.1, HF.out.2]; rfl, hU3.2⟩
          · have hrne : bL r ≠ [] := by
              intro e
              have := congrArg List.length e
              rw [bL_len] at this
              exact hr0 this
            have hpl := piece_le (bL r) hrne
            rw [bL_len] at hpl
            obtain ⟨g, rfl⟩ : ∃ g, f = g + 1 := ⟨f - 1, by omega⟩
            have hun2 : (if (pieceP (bL r)).2 = 0 then none else unqGo g (acc ++ (pieceP (bL r)).1) ((bL r).drop (pieceP (bL r)).2)) = R := by
              rw [← hun]
              conv => rhs; unfold unqGo
              rw [if_neg hrne]
            have HP := hid' (quote_piece r wr (by omega) (by omega) (HE.out.below hU.2))
            have hres : r.toList.isEmpty = false := by
              rw [ByteArray.toList_eq, List.isEmpty_eq_false_iff]; exact hrne
            have hdr : (bL r).drop (pieceP (bL r)).2 = bL (r.extract (pieceP (bL r)).2 r.size) := by
              rw [bL_ext, List.take_of_length_le (by rw [List.length_drop, bL_len]; omega)]
            rw [hdr] at hun2
            have hU' := hid' hU
            clear hun hrne hdr hU
            generalize (pieceP (bL r)).1 = P at *
            generalize (pieceP (bL r)).2 = n at *
            by_cases hn0 : n = 0
            · rw [if_pos hn0] at hun2
              have hfin : uS (unqP (bL q)) = ⟨#[]⟩ ∧ uB (unqP (bL q)) = false := by
                rw [HGO.out, ← hun2]
                exact ⟨rfl, rfl⟩
              have HF := hid' hfin
              subst hn0
              clear hfin hun2
              go_wp2_with fail
              refine HP.out.mono ?_
              rintro e w2 ⟨rfl, hB2⟩
              have hU2 := hU'.out.below hB2
              go_wp2
              go_ret2
              exact ⟨by rw [HF.out.1, HF.out.2]; rfl, hU2.2⟩
            · rw [if_neg hn0] at hun2
              have HUN := hid' hun2
              have hnn : ((n : Int) == 0) = false := by rw [beq_eq_false_iff_ne]; omega
              have hPz : (strOf P).size = P.length := rfl
              have hst := hid' (fun W h => (show Calls _ _ _ W _ from USt.str (w0 := w) (W := W) (l := acc) h (strOf P) (by rw [hPz]; omega)))
              have hnr : (n : Int) ≤ (r.size : Int) := by omega
              have hsz2 : (r.extract n r.size).size = r.size - n := by rw [ByteArray.size_extract]; omega
              have HS2 := hid' hsz2
              have hrq : r.size ≤ 9223372036854775807 := by omega
              clear hun2 hPz hsz2
              go_wp2_with fail
              refine HP.out.mono ?_
              rintro e w2 ⟨rfl, hB2⟩
              have hU2 := hU'.out.below hB2
              go_wp2_with fail
              refine (hst.out _ hU2).mono ?_
              rintro e w3 ⟨⟨r3, rfl⟩, hU3⟩
              go_wp2
              go_roundw
              case rel => exact ⟨_, _, g, rfl, by rw [bL_str] at hU3; exact hU3, HUN.out, by rw [HS2.out]; omega, by rw [HS2.out, List.length_append]; omega⟩
              case measure => exact (by show (r.extract n r.size).size < r.size; rw [HS2.out]; omega)
      · replace hno := hno (.inr h1)
        clear hgo
        have hN := hno
        have hb0 := bel_refl w
        have h9 : uS (unqP (bL q)) = ⟨#[]⟩ ∧ uB (unqP (bL q)) = false := by rw [hN]; exact ⟨rfl, rfl⟩
        rw [h9.1, h9.2]
        clear hN h9 hno
        have e1 : ((b : Int) != 34) = true := by rw [bne_iff_ne]; omega
        have e0 : ((a : Int) != 34) = false := by rw [h0]; rfl
        clear h0 h1
        go_enter Tryd.func21, Tryd.ntmps21
        go_wp2
        go_ret2
        exact ⟨rfl, hb0⟩
    · replace hno := hno (.inl h0)
      clear hgo
      have hN := hno
      have hb0 := bel_refl w
      have h9 : uS (unqP (bL q)) = ⟨#[]⟩ ∧ uB (unqP (bL q)) = false := by rw [hN]; exact ⟨rfl, rfl⟩
      rw [h9.1, h9.2]
      clear hN h9 hno
      have h34 : ((a : Int) != 34) = true := by rw [bne_iff_ne]; omega
      clear h0
      go_enter Tryd.func21, Tryd.ntmps21
      go_wp2
      go_ret2
      exact ⟨rfl, hb0⟩
end Go.Proofs.YtioaijjmialdoaaDoor
