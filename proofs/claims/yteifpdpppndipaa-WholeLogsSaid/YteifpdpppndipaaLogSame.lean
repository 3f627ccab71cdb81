
/- Rows of records: read as structs; whether two are one. No condition. -/
import Derived.Test.YteifpdpppndipaaLog
import Derived.Test.YteifpdpppndipaaLogPureB
import Derived.Test.YteifpdpppndipaaCells
namespace Go.Proofs.Yteifpdpppndipaa
set_option maxRecDepth 100000
set_option linter.unusedSimpArgs false
open Go.RowKit
set_option linter.unusedVariables false
set_option linter.unusedSimpArgs false

def sameR (l m : List Rec) : Bool := decide (l = m)
theorem sameR_self (l : List Rec) : sameR l l = true := by simp [sameR]
theorem rec_part {x y : Rec} (h : x ≠ y) : x.1 ≠ y.1 ∨ (x.1 = y.1 ∧ x.2.1 ≠ y.2.1) ∨ (x.1 = y.1 ∧ x.2.1 = y.2.1 ∧ x.2.2 ≠ y.2.2) := by
  obtain ⟨a, b, c⟩ := x
  obtain ⟨a', b', c'⟩ := y
  simp only
  by_cases h1 : a = a'
  · by_cases h2 : b = b'
    · by_cases h3 : c = c'
      · exact absurd (by rw [h1, h2, h3]) h
      · exact .inr (.inr ⟨h1, h2, h3⟩)
    · exact .inr (.inl ⟨h1, h2⟩)
  · exact .inl h1
set_option maxHeartbeats 4000000 in
theorem ref05_Same (A A' : Option Addr) (c c' : Nat) (l m : List Rec) (w : World) (hr : RdS w A 3 fRec l) (hr' : RdS w A' 3 fRec m) (hl : l.length ≤ 1000000) (hm : m.length ≤ 1000000) :
    Calls Try.prog 18 #[.slice A l.length c, .slice A' m.length c'] w fun e w' => e = .returned (.bool (sameR l m)) ∧ Dr w w' := by
  by_cases hlen : l.length = m.length
  · have hsm : ∀ i, i ≤ l.length → l.take i = m.take i → i = l.length → sameR l m = true := by
      intro i _ h hi
      subst hi
      rw [List.take_of_length_le (Nat.le_refl _), List.take_of_length_le (by omega)] at h
      subst h; exact sameR_self _
    have hno : ∀ (i : Nat) (x y : Rec), l[i]? = some x → m[i]? = some y → x ≠ y → sameR l m = false := by
      intro i x y h1 h2 hne
      unfold sameR
      rw [decide_eq_false_iff_not]
      rintro rfl
      rw [h1] at h2
      exact hne (Option.some.inj h2)
    obtain ⟨n, hn⟩ : ∃ n, n = l.length := ⟨_, rfl⟩
    rw [← hlen, ← hn]
    have HN := hid' hn
    have HSM := hid' hsm
    have HNO := hid' hno
    have HLEN := hid' hlen
    have HR := hid' hr
    have HR' := hid' hr'
    have hnb : n ≤ 1000000 := by omega
    clear hn hsm hno hlen hr hr' hl hm
    obtain ⟨b, hb⟩ : ∃ b, b = sameR l m := ⟨_, rfl⟩
    have HB := hid' hb
    rw [← hb]
    clear hb
    go_enter Try.func18, Try.ntmps18
    go_wp2
    go_loopw [5] (fun v5 wr => ∃ i : Nat, i ≤ n ∧ v5 = .int .i64 i ∧ l.take i = m.take i ∧ Dr w wr) (fun v5 _ => n - (intOf v5).toNat)
    case atStart => exact ⟨0, Nat.zero_le _, rfl, rfl, Dr.refl _⟩
    case round =>
      obtain ⟨i, hi, rfl, htk, hD⟩ := hrel
      have HD := hid' hD
      have HT := hid' htk
      clear htk hD
      by_cases hlt : i < n
      · obtain ⟨x, hx⟩ : ∃ x, l[i]? = some x := ⟨_, List.getElem?_eq_getElem (by rw [← HN.out]; exact hlt)⟩
        obtain ⟨y, hy⟩ : ∃ y, m[i]? = some y := ⟨_, List.getElem?_eq_getElem (by rw [← HLEN.out, ← HN.out]; exact hlt)⟩
        obtain ⟨ad, rfl, a0, a1, a2⟩ := (HR.out.below HD.out.below).rec hx
        obtain ⟨ad', rfl, b0, b1, b2⟩ := (HR'.out.below HD.out.below).rec hy
        have HX := hid' hx
        have HY := hid' hy
        clear hx hy
        by_cases hxy : x = y
        · subst hxy
          go_wp2
          go_quiet (fail)
          all_goals
            go_wp2
            go_roundw
            case rel => exact ⟨i + 1, by omega, by go_num, by rw [take_snoc' HX.out, take_snoc' HY.out, HT.out], HD.out.trans ⟨_, rfl⟩⟩
            case measure => first | (simp [intOf]; done) | (simp [intOf]; omega)
        · have hbf : b = false := HB.out.trans (HNO.out i x y HX.out HY.out hxy)
          subst hbf
          obtain ⟨k1, t1, x1⟩ := x
          obtain ⟨k2, t2, x2⟩ := y
          rcases rec_part hxy with h | ⟨h, h'⟩ | ⟨h, h', h''⟩
          · have h1 : (k1 == k2) = false := by simpa using h
            clear h hxy
            simp only at a0 a1 a2 b0 b1 b2
            go_wp2
            go_quiet (fail)
            all_goals
              go_wp2
              go_ret
              exact ⟨rfl, HD.out.trans ⟨_, rfl⟩⟩
          · have h1 : (t1 == t2) = false := by simpa using h'
            simp only at h
            subst h
            clear h' hxy
            simp only at a0 a1 a2 b0 b1 b2
            go_wp2
            go_quiet (fail)
            all_goals
              go_wp2
              go_ret
              exact ⟨rfl, HD.out.trans ⟨_, rfl⟩⟩
          · have h1 : (x1.toList == x2.toList) = false := by rw [beq_eq_false_iff_ne]; intro e; rw [ByteArray.toList_eq, ByteArray.toList_eq] at e; exact h'' (bl_inj e)
            simp only at h h'
            subst h h'
            clear h'' hxy
            simp only at a0 a1 a2 b0 b1 b2
            go_wp2
            go_quiet (fail)
            all_goals
              go_wp2
              go_ret
              exact ⟨rfl, HD.out.trans ⟨_, rfl⟩⟩
      · have hbt : b = true := HB.out.trans (HSM.out i (by rw [← HN.out]; exact hi) HT.out (by rw [← HN.out]; omega))
        subst hbt
        go_wp2
        go_ret
        exact ⟨rfl, HD.out⟩
  · have hs : sameR l m = false := by
      unfold sameR; rw [decide_eq_false_iff_not]; rintro rfl; exact hlen rfl
    rw [hs]
    have h1 : ((l.length : Int) == (m.length : Int)) = false := by rw [beq_eq_false_iff_ne]; omega
    clear hs hlen
    go_enter Try.func18, Try.ntmps18
    go_wp2
    go_ret
    exact ⟨rfl, Dr.refl _⟩
end Go.Proofs.Yteifpdpppndipaa
