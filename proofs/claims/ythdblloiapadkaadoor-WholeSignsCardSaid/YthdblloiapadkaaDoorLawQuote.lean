
/- The laws of texts in marks, walked. No condition but the tables and variables of Go's own library. -/
import Derived.Test.YthdblloiapadkaaDoorUnquoteW
import Derived.Test.YthdblloiapadkaaDoorQuoteRefB
import Derived.Test.YthdblloiapadkaaDoorSignsW
import Derived.Test.YthdblloiapadkaaDoorTabsQB
import Derived.Test.YthdblloiapadkaaDoorSat
namespace Go.Proofs.YthdblloiapadkaaDoor
set_option maxRecDepth 100000
set_option linter.unusedSimpArgs false
open Go.RowKit
set_option linter.unusedVariables false
set_option linter.unusedSimpArgs false

theorem sp4_signs : signs ⟨#[97, 10, 255]⟩ = [97, 10, -256] := by decide +kernel
theorem sp4_quote : quoteP ⟨#[97, 10, 255]⟩ = [34, 97, 92, 117, 123, 97, 125, 92, 120, 102, 102, 34] := by
  unfold quoteP
  rw [sp4_signs]
  show [34] ++ (qOne 97 ++ (qOne 10 ++ (qOne (-256) ++ []))) ++ [34] = _
  have h1 : qOne 97 = [97] := by decide +kernel
  have h2 : qOne 10 = [92, 117, 123, 97, 125] := by
    unfold qOne
    rw [if_neg (by decide), if_neg (by decide), if_pos (by decide), show ((10 : Int).toNat) = 10 from rfl, hexL_lt (by decide)]; rfl
  have h3 : qOne (-256) = [92, 120, 102, 102] := by
    unfold qOne
    rw [if_pos (by decide), show (-(-256 : Int) - 1).toNat = 255 from rfl, hexL_ge (by decide), hexL_lt (by decide)]; rfl
  rw [h1, h2, h3]
  rfl
theorem sp4_unq : unqP (bL ⟨#[34, 97, 92, 117, 123, 97, 125, 92, 120, 102, 102, 34]⟩) = some [97, 10, 255] := by
  have := unqP_quote ⟨#[97, 10, 255]⟩
  rw [sp4_quote] at this
  exact this
theorem unqGo_le : ∀ (f : Nat) (acc l x : List UInt8), unqGo f acc l = some x → x.length ≤ acc.length + l.length := by
  intro f
  induction f with
  | zero =>
    intro acc l x h
    unfold unqGo at h
    split at h
    · simp only [Option.some.injEq] at h; subst h; omega
    · cases h
  | succ f ih =>
    intro acc l x h
    unfold unqGo at h
    split at h
    · simp only [Option.some.injEq] at h; subst h; omega
    · rename_i hl
      split at h
      · cases h
      · have h1 := ih _ _ _ h
        have h2 := piece_le l hl
        rw [List.length_append, List.length_drop] at h1
        omega
theorem unqP_le {q x : List UInt8} (h : unqP q = some x) : x.length ≤ q.length := by
  unfold unqP at h
  split at h
  · cases h
  · split at h
    · cases h
    · rename_i y hy
      split at h
      · simp only [Option.some.injEq] at h
        subst h
        have := unqGo_le _ _ _ _ hy
        simp only [List.length_nil, List.length_take, List.length_drop] at this
        omega
      · cases h
theorem sp4_has1 : hasB ⟨#[195, 164, 98]⟩ 228 = true := by decide +kernel
theorem sp4_has2 : hasB ⟨#[228]⟩ 228 = false := by decide +kernel
set_option maxHeartbeats 4000000 in
theorem speaks04 (w : World) (hT : U8T w) (hZ : TzT w) (hE : ErT w) : Calls Tryd.prog 15 #[] w fun e w' => e = .returned (.bool true) ∧ Below w.heap.size w w' := by
  have HT := hid' hT
  have HZ := hid' hZ
  have HU := hid' (quote_Unquote ⟨#[34, 97, 92, 117, 123, 97, 125, 92, 120, 102, 102, 34]⟩ w (by decide) hT hZ hE)
  have HQ := hid' (fun W hT hZ => quote_Quote ⟨#[97, 10, 255]⟩ W (by decide) hT hZ)
  have H1 := hid' (fun W hT => quote_Has ⟨#[195, 164, 98]⟩ 228 W (by decide) (by unfold I64; decide) hT)
  have H2 := hid' (fun W hT => quote_Has ⟨#[228]⟩ 228 W (by decide) (by unfold I64; decide) hT)
  rw [sp4_unq, show uS (some [97, 10, 255]) = ⟨#[97, 10, 255]⟩ from rfl, show uB (some [97, 10, 255]) = true from rfl] at HU
  rw [sp4_quote, show strOf [34, 97, 92, 117, 123, 97, 125, 92, 120, 102, 102, 34] = ⟨#[34, 97, 92, 117, 123, 97, 125, 92, 120, 102, 102, 34]⟩ from rfl] at HQ
  rw [sp4_has1] at H1
  rw [sp4_has2] at H2
  clear hT hZ hE
  go_enter Tryd.func15, Tryd.ntmps15
  go_wp2_with fail
  refine HU.out.mono ?_
  rintro e w1 ⟨rfl, hB1⟩
  go_wp2_with fail
  refine (HQ.out _ (HT.out.below hB1) (HZ.out.below hB1)).mono ?_
  rintro e w2 ⟨rfl, hB2⟩
  have hL2 := bel_then hB1 hB2
  go_wp2_with fail
  refine (H1.out _ (HT.out.below hL2)).mono ?_
  rintro e w3 ⟨rfl, hB3⟩
  have hL3 := bel_then hL2 hB3
  go_wp2_with fail
  refine (H2.out _ (HT.out.below hL3)).mono ?_
  rintro e w4 ⟨rfl, hB4⟩
  go_wp2
  go_ret
  exact ⟨rfl, bel_then hL3 hB4⟩
set_option maxHeartbeats 4000000 in
theorem quoteOne (q : ByteArray) (w : World) (hq : q.size ≤ maxLen) (hZ : TzT w) (hE : ErT w) (hT : U8T w) :
    Calls Tryd.prog 4 #[.string q] w fun e w' => e = .returned (.bool true) ∧ Below w.heap.size w w' := by
  have HT := hid' hT
  have HZ := hid' hZ
  have HE := hid' hE
  have HS := hid' (speaks04 w hT hZ hE)
  have hqm : q.size ≤ 9223372036854775807 := by unfold maxLen at hq; omega
  clear hT hZ hE
  by_cases hbig : 500 < q.size
  · have hb1 : (500 : Int) < (q.size : Int) := by omega
    go_enter Tryd.func4, Tryd.ntmps4
    go_wp2_with fail
    refine HS.out.mono ?_
    rintro e w1 ⟨rfl, hB1⟩
    go_wp2
    go_ret
    exact ⟨rfl, hB1⟩
  · have hb1 : (q.size : Int) ≤ 500 := by omega
    have HU := hid' (fun W => quote_Unquote q W (by omega))
    cases ho : unqP (bL q) with
    | none =>
      rw [ho, show uS none = ⟨#[]⟩ from rfl, show uB none = false from rfl] at HU
      clear ho
      go_enter Tryd.func4, Tryd.ntmps4
      go_wp2_with fail
      refine HS.out.mono ?_
      rintro e w1 ⟨rfl, hB1⟩
      go_wp2_with fail
      refine (HU.out w1 (HT.out.below hB1) (HZ.out.below hB1) (HE.out.below hB1)).mono ?_
      rintro e w2 ⟨rfl, hB2⟩
      go_wp2
      go_ret
      exact ⟨rfl, bel_then hB1 hB2⟩
    | some x =>
      have h1 := unqP_one ho
      have hsz : x.length ≤ 100000 := by
        have h2 := unqP_le ho
        rw [bL_len] at h2
        omega
      rw [ho, show uS (some x) = strOf x from rfl, show uB (some x) = true from rfl] at HU
      have HR := hid' (fun W => ref04_Quote (strOf x) W (show x.length ≤ 200000 by omega))
      rw [show quoteP (strOf x) = bL q from h1, show strOf (bL q) = q from bL_inj (bL_str _)] at HR
      clear ho h1
      go_enter Tryd.func4, Tryd.ntmps4
      go_wp2_with fail
      refine HS.out.mono ?_
      rintro e w1 ⟨rfl, hB1⟩
      go_wp2_with fail
      refine (HU.out w1 (HT.out.below hB1) (HZ.out.below hB1) (HE.out.below hB1)).mono ?_
      rintro e w2 ⟨rfl, hB2⟩
      go_wp2_with fail
      refine (HR.out w2).mono ?_
      rintro e w3 ⟨rfl, hB3⟩
      go_wp2
      go_ret
      exact ⟨rfl, bel_then (bel_then hB1 hB2) hB3⟩
end Go.Proofs.YthdblloiapadkaaDoor
