
/- The third law of layer 16 (tree), walked. No condition. -/
import Derived.Test.YtnihefhnffnjoaaLawTreeB
namespace Go.Proofs.Ytnihefhnffnjoaa
open Go.RowKit
set_option linter.unusedVariables false

theorem best_spec (key : Int → Int) (inn : Nat → Bool) : ∀ k, (best key inn 0 k = -1 ∧ ∀ j, j < k → inn j = false) ∨ ∃ q : Nat, best key inn 0 k = (q : Int) ∧ q < k ∧ inn q = true ∧ ∀ j : Nat, j < k → inn j = true → key (q : Int) ≤ key (j : Int)
  | 0 => .inl ⟨rfl, fun j hj => by omega⟩
  | k + 1 => by
    rw [best, Nat.zero_add]
    rcases best_spec key inn k with ⟨h1, h2⟩ | ⟨q, h1, h2, h3, h4⟩
    · rw [h1, none_better]
      by_cases hin : inn k = true
      · refine .inr ⟨k, by rw [if_pos hin], by omega, hin, fun j hj hjn => ?_⟩
        by_cases hjk : j = k
        · subst hjk; exact Int.le_refl _
        · have := h2 j (by omega); rw [this] at hjn; cases hjn
      · refine .inl ⟨by rw [if_neg hin], fun j hj => ?_⟩
        by_cases hjk : j = k
        · subst hjk; simpa using hin
        · exact h2 j (by omega)
    · rw [h1]
      by_cases hin : inn k = true
      · rw [if_pos hin]
        unfold better
        rw [if_neg (by omega)]
        by_cases hle : key (q : Int) ≤ key (k : Int)
        · rw [if_pos (.inr hle)]
          refine .inr ⟨q, rfl, by omega, h3, fun j hj hjn => ?_⟩
          by_cases hjk : j = k
          · subst hjk; exact hle
          · exact h4 j (by omega) hjn
        · rw [if_neg (by omega)]
          refine .inr ⟨k, rfl, by omega, hin, fun j hj hjn => ?_⟩
          by_cases hjk : j = k
          · subst hjk; exact Int.le_refl _
          · have := h4 j (by omega) hjn; omega
      · rw [if_neg hin, better_none]
        refine .inr ⟨q, rfl, by omega, h3, fun j hj hjn => ?_⟩
        by_cases hjk : j = k
        · subst hjk; exact absurd hjn hin
        · exact h4 j (by omega) hjn
def revK (l : List Int) (k : Nat) : List Int := List.replicate (l.length - k) 0 ++ (l.take k).reverse
theorem revK_len (l : List Int) {k : Nat} (h : k ≤ l.length) : (revK l k).length = l.length := by unfold revK; simp; omega
theorem revK_succ (l : List Int) {k : Nat} {x : Int} (hx : l[k]? = some x) : (revK l k).set (l.length - 1 - k) x = revK l (k + 1) := by
  have hk := (List.getElem?_eq_some_iff.1 hx).1
  unfold revK
  rw [take_snoc' hx, List.reverse_append, List.reverse_singleton]
  rw [show l.length - k = (l.length - 1 - k) + 1 by omega, List.replicate_succ', List.append_assoc, List.set_append_right _ _ (by simp)]
  simp
  rw [show l.length - (k + 1) = l.length - 1 - k by omega]
theorem revK_all (l : List Int) {q : Nat} (hq : q < l.length) : (revK l l.length)[q]? = l[l.length - 1 - q]? := by
  unfold revK
  rw [Nat.sub_self, List.replicate_zero, List.nil_append, List.take_length, List.getElem?_reverse hq]
/-- How many are out, and what is left is no less than the last. -/
def Sorting (keys : List Int) (S : List Bool) (k : Nat) (last : Int) : Prop := S.count true = k ∧ S.length = keys.length ∧ (0 < k → ∀ j : Nat, innOf S j = true → last ≤ keyOf keys (j : Int))
theorem Sorting.next {keys : List Int} {S : List Bool} {k : Nat} {last : Int} (h : Sorting keys S k last) (hk : k < keys.length) :
    ∃ q : Nat, treeBest keys S = (q : Int) ∧ q < keys.length ∧ S[q]? = some false ∧ (0 < k → last ≤ keyOf keys (q : Int)) ∧ Sorting keys (S.set q true) (k + 1) (keyOf keys (q : Int)) := by
  obtain ⟨h1, h2, h3⟩ := h
  unfold treeBest
  rcases best_spec (keyOf keys) (innOf S) keys.length with ⟨_, hb⟩ | ⟨q, hb, hq, hin, hmin⟩
  · exfalso
    have : ∀ b ∈ S, true = b := by
      intro b hb'
      obtain ⟨j, hj, rfl⟩ := List.mem_iff_getElem.1 hb'
      have h4 := hb j (by omega)
      have h5 := innOf_at hj
      rw [h4, List.getElem?_eq_getElem hj] at h5
      simpa using h5.symm
    have := List.count_eq_length.2 this
    omega
  · have hS : S[q]? = some false := by rw [innOf_at (by omega), hin]; rfl
    refine ⟨q, hb, hq, hS, fun h0 => h3 h0 q hin, ?_, by simpa using h2, fun _ j hj => ?_⟩
    · have hlt : q < S.length := by omega
      rw [List.getElem?_eq_getElem hlt] at hS
      have hS' : S[q] = false := by simpa using hS
      rw [List.count_set hlt, hS']
      simp; omega
    · by_cases hjq : j = q
      · subst hjq; exact Int.le_refl _
      · rw [innOf_set hjq] at hj
        exact hmin j (by have := innOf_lt hj; omega) hj
theorem Sorting.done {keys : List Int} {S : List Bool} {last : Int} (h : Sorting keys S keys.length last) : treeLO keys S = false := by
  obtain ⟨h1, h2, h3⟩ := h
  have hall := List.count_eq_length.1 (h1.trans h2.symm)
  unfold treeLO treeBest
  rw [best_out _ _ _ _ (fun i _ hi => ?_)]; rfl
  have hi' : i < S.length := by omega
  unfold innOf
  rw [List.getD_eq_getElem?_getD, List.getElem?_eq_getElem hi', ← hall S[i] (List.getElem_mem hi')]
  rfl
set_option maxRecDepth 100000 in
set_option maxHeartbeats 4000000 in
theorem treeSorts (A : Option Addr) (cp : Nat) (l : List Int) (w : World) (hr : Rd w A (l.map (.int .i64))) (hl : ∀ x ∈ l, (Lit.int .i64 x).wf = true) (hn : l.length ≤ maxLen) :
    Calls Try.prog 8 #[.slice A l.length cp] w fun e w' => e = .returned (.bool true) ∧ Below w.heap.size w w' := by
  have hn' : l.length ≤ 9223372036854775807 := hn
  have HR := hid' hr
  clear hr hl hn
  go_enter Try.func8, Try.ntmps8
  go_wp2_with fail
  refine (law16_speaks w).mono ?_
  rintro e w1 ⟨rfl, hB⟩
  by_cases hl0 : 200 < l.length
  · go_wp2
    go_ret
    exact ⟨rfl, hB⟩
  have HR1 := hid' (HR.out.below hB)
  have HB := hid' hB
  clear HR hB
  go_wp2_with fail
  refine (STree.new_ (w0 := w1) (l.length : Int) (bel_refl _) (by omega)).mono ?_
  rintro e w2 ⟨lo, hi, g, rfl, hS⟩
  rw [Int.toNat_natCast] at hS
  have HS := hid' hS
  clear hS
  go_wp2
  go_loopw [25] (fun v25 wr => ∃ k : Nat, k ≤ l.length ∧ v25 = .int .i64 k ∧ STree w1 wr lo hi g (revK l k) (List.replicate l.length false) []) (fun v25 _ => l.length - (intOf v25).toNat)
  case atStart => exact ⟨0, Nat.zero_le _, rfl, by unfold revK; simpa using HS.out⟩
  case round =>
    obtain ⟨k, hk, rfl, hS⟩ := hrel
    have HS1 := hid' hS
    clear hS
    by_cases hlt : k < l.length
    · obtain ⟨ad, x, rfl, hx, hcx⟩ := Rd.at_ (HR1.out.below HS1.out.below) hlt
      have HK := hid' (revK_succ l hx)
      clear hx
      go_wp2_with fail
      refine (STree.set _ x HS1.out).mono ?_
      rintro e w5 ⟨rfl, hS5⟩
      have HS5 := hid' hS5
      clear hS5
      go_wp2
      go_roundw
      case rel =>
        refine ⟨k + 1, by omega, by go_num, ?_⟩
        rw [← HK.out]
        have := HS5.out
        unfold alSet at this
        rw [if_pos (by omega), show ((l.length : Int) - 1 - (k : Int)).toNat = l.length - 1 - k by omega] at this
        exact this
      case measure => simp [intOf]; omega
    · have hkl : k = l.length := by omega
      subst hkl
      have hmb := mk1_run (P := Try.prog) 55 4 (.bool false) 1 Try.underlying55 (by kernel_rfl) rfl l.length (by omega) (by omega)
      have hS := HS1.out
      have hS2 := (hS.bel (bel_alloc (bel_refl wr) (.cells (madeCells #[Value.bool false] l.length) 4))).addE (BlkL.made' (f := Value.bool) wr 4 false l.length) (by have := hS.2.2.1; omega)
      have HS2 := hid' hS2
      have hbs1 := hS.below.size
      have hbs2 := hS.2.2.1
      have HKE := hid' (revK_len l (Nat.le_refl l.length))
      have HKA := hid' (fun (q : Nat) (hq : q < l.length) => revK_all l hq)
      clear hS hS2 HS1
      generalize revK l l.length = keys at *
      go_wp2
      clear hmb
      generalize wr.alloc (.cells (madeCells #[Value.bool false] l.length) 4) = w3 at *
      generalize wr.heap.size = bs at *
      go_loopg [7, 44] l.length (fun gk v7 v44 wr => ∃ (i : Nat) (S : List Bool) (last : Int), i ≤ l.length ∧ gk = l.length - i ∧ v44 = .int .i64 i ∧ v7 = .int .i64 last ∧ Hid (Sorting keys S i last) ∧ STree w1 wr lo hi g keys S [(bs, 4, (S.map Value.bool).toArray)])
      case atStart => exact ⟨0, _, 0, by omega, by omega, rfl, rfl, ⟨by simp [List.count_replicate], by rw [List.length_replicate, HKE.out], fun h => by omega⟩, HS2.out⟩
      case round =>
        obtain ⟨i, S, last, hi', rfl, rfl, rfl, HSo, hS⟩ := hrel
        have HS3 := hid' hS
        clear hS
        by_cases hlt2 : i < l.length
        · obtain ⟨q, hb, hq, hSq, hlast, hnext⟩ := HSo.out.next (by rw [HKE.out]; exact hlt2)
          have hq' : q < l.length := by rw [← HKE.out]; exact hq
          have HLe := hid' HS3.out.least
          rw [show treeLK keys S = keyOf keys (q : Int) by unfold treeLK; rw [hb, if_neg (by omega)], show treeLP keys S = (q : Int) by unfold treeLP; rw [hb, if_neg (by omega)], show treeLO keys S = true by unfold treeLO; rw [hb]; simp] at HLe
          have hcs := BlkL.cell (f := Value.bool) HS3.out.e0 hSq
          have hfs := HS3.out.e0.frozen q
          have HNx := hid' hnext
          have HLa := hid' hlast
          obtain ⟨ad, y, rfl, hy, hcy⟩ := Rd.at_ (HR1.out.below HS3.out.below) (show l.length - 1 - q < l.length by omega)
          have hyk : keyOf keys (q : Int) = y := by
            have h1 := keyOf_at (keys := keys) (p := q) hq
            rw [HKA.out q hq', hy] at h1
            simpa using h1.symm
          rw [hyk] at HLe HLa HNx
          have HYK := hid' hyk
          clear hb hq hnext hlast hSq hy hyk
          have hS4 := HS3.out.put (ex' := [(bs, 4, ((S.set q true).map Value.bool).toArray)]) (b := bs) (i := q) (v := .bool true) hbs1 (.inr hbs2) (by
            intro x hx; rw [List.mem_singleton] at hx; subst hx
            exact ⟨BlkL.set (f := Value.bool) HS3.out.e0 q true, .inr hbs2⟩)
          have HBS := hid' (show bSet S (q : Int) true = S.set q true by unfold bSet; rw [if_pos (by omega)]; simp)
          have HLv := hid' (hS4.leave (q : Int) true)
          rw [HBS.out] at HLv
          clear hS4
          by_cases h0 : 0 < i
          · have hly := HLa.out h0
            clear HLa
            go_wp2_with (first
              | (go_at_call 37; refine (HLe.out).mono ?_; rintro e w' ⟨rfl, rfl⟩)
              | (go_at_call 34; refine (HLv.out).mono ?_; rintro e w' ⟨rfl, hS5⟩))
            go_roundg (l.length - (i + 1))
            case measure => omega
            case rel => exact ⟨i + 1, S.set q true, y, by omega, rfl, by go_num, rfl, HNx.out, hS5⟩
          · clear HLa
            go_wp2_with (first
              | (go_at_call 37; refine (HLe.out).mono ?_; rintro e w' ⟨rfl, rfl⟩)
              | (go_at_call 34; refine (HLv.out).mono ?_; rintro e w' ⟨rfl, hS5⟩))
            go_roundg (l.length - (i + 1))
            case measure => omega
            case rel => exact ⟨i + 1, S.set q true, y, by omega, rfl, by go_num, rfl, HNx.out, hS5⟩
        · have hil : i = l.length := by omega
          have HLe := hid' HS3.out.least
          have hSo := HSo.out
          rw [hil, ← HKE.out] at hSo
          rw [hSo.done] at HLe
          clear hSo
          go_wp2_with (go_at_call 37; refine (HLe.out).mono ?_; rintro e w' ⟨rfl, rfl⟩)
          go_ret
          exact ⟨rfl, bel_then HB.out HS3.out.below⟩
end Go.Proofs.Ytnihefhnffnjoaa
