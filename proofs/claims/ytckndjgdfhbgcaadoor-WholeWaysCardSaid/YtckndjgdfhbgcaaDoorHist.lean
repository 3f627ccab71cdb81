
/- What the functions of hist do to their row of bins. No condition. -/
import Derived.Test.YtckndjgdfhbgcaaDoorSliceBin
import Derived.Test.YtckndjgdfhbgcaaDoorCells
namespace Go.Proofs.YtckndjgdfhbgcaaDoor
set_option maxRecDepth 100000
set_option linter.unusedSimpArgs false
open Go.RowKit
set_option linter.unusedVariables false

def cmpB (m n : Int) : Int := if m < n then -1 else if n < m then 1 else 0
theorem hist_cmp (m k n : Int) (w : World) :
    Calls Tryd.prog 40 #[.agg #[.int .i64 m, .int .i64 k], .int .i64 n] w fun e w' => e = .returned (.int .i64 (cmpB m n)) ∧ Below w.heap.size w w' := by
  unfold cmpB
  by_cases h1 : m < n
  · rw [if_pos h1]
    go_enter Tryd.func40, Tryd.ntmps40
    go_wp2
    go_ret
    exact ⟨rfl, (by repeat (first | assumption | apply bel_alloc | apply bel_drewN | apply bel_drew | exact bel_refl _))⟩
  · rw [if_neg h1]
    by_cases h2 : n < m
    · rw [if_pos h2]
      go_enter Tryd.func40, Tryd.ntmps40
      go_wp2
      go_ret
      exact ⟨rfl, (by repeat (first | assumption | apply bel_alloc | apply bel_drewN | apply bel_drew | exact bel_refl _))⟩
    · rw [if_neg h2]
      go_enter Tryd.func40, Tryd.ntmps40
      go_wp2
      go_ret
      exact ⟨rfl, (by repeat (first | assumption | apply bel_alloc | apply bel_drewN | apply bel_drew | exact bel_refl _))⟩
theorem own_rdS {w : World} {B : Nat} {v : Value} {bs : List (Int × Nat)} (h : w.ownsRow B 67 2 v bs.length (binC bs)) :
    ∃ A c, v = .slice A bs.length c ∧ bs.length ≤ c ∧ c ≤ maxLen ∧ RdS w A 2 fBin bs := by
  obtain ⟨A, c, hv, h1, h2, hr⟩ := own_rd h
  refine ⟨A, c, hv, h1, h2, fun j x hx => ?_⟩
  obtain ⟨g0, g1⟩ := binC_get hx
  obtain ⟨ad, hA, c0⟩ := hr _ _ g0
  refine ⟨ad, hA, rfl, fun i u hi => ?_⟩
  match i, hi with
  | 0, hi =>
    simp [fBin] at hi; subst hi
    rw [add_add']; exact c0
  | 1, hi =>
    simp [fBin] at hi; subst hi
    obtain ⟨ad', hA', c1⟩ := hr _ _ g1
    rw [hA] at hA'; injection hA' with hA'; subst hA'
    rw [add_add']; exact c1
theorem posB_at : ∀ {bs : List (Int × Nat)} {n : Int} (i : Nat), SortB bs → i ≤ bs.length → (∀ t b, t < i → bs[t]? = some b → b.1 < n) → (∀ t b, i ≤ t → bs[t]? = some b → n ≤ b.1) → posB n bs = i ∧ isB n bs = (match bs[i]? with | some b => decide (b.1 = n) | none => false)
  | [], n, i, _, hi, _, _ => by
    have : i = 0 := by simpa using hi
    subst this; exact ⟨rfl, rfl⟩
  | b :: bs, n, 0, hs, _, _, h2 => by
    have := h2 0 b (Nat.le_refl _) rfl
    rw [posB, isB, if_neg (Int.not_lt.2 this), if_neg (Int.not_lt.2 this)]
    exact ⟨rfl, rfl⟩
  | b :: bs, n, i + 1, hs, hi, h1, h2 => by
    have hb := h1 0 b (by omega) rfl
    have ih := posB_at (bs := bs) (n := n) i hs.tail (by simpa using hi) (fun t x ht hx => h1 (t + 1) x (by omega) (by simpa using hx)) (fun t x ht hx => h2 (t + 1) x (by omega) (by simpa using hx))
    rw [posB, isB, if_pos hb, if_pos hb, ih.1, ih.2]
    exact ⟨rfl, by simp⟩
theorem sort_get : ∀ {bs : List (Int × Nat)} {i j : Nat} {a b : Int × Nat}, SortB bs → i < j → bs[i]? = some a → bs[j]? = some b → a.1 < b.1
  | [], i, j, a, b, _, _, h, _ => by simp at h
  | x :: bs, 0, j + 1, a, b, hs, _, ha, hb => by
    simp at ha; subst ha
    exact hs.head b (List.mem_of_getElem? (by simpa using hb))
  | x :: bs, i + 1, j + 1, a, b, hs, hij, ha, hb => sort_get (i := i) (j := j) hs.tail (by omega) (by simpa using ha) (by simpa using hb)

set_option maxHeartbeats 2000000 in
theorem slices_BSearch (A : Option Addr) (c : Nat) (bs : List (Int × Nat)) (n : Int) (w : World) (hr : RdS w A 2 fBin bs) (hs : SortB bs) (hn : bs.length ≤ 100000) :
    Calls Tryd.prog 39 #[.slice A bs.length c, .int .i64 n, .func (.func 40) #[] #[]] w fun e w' =>
      e = .returned (.tuple #[.int .i64 (posB n bs : Nat), .bool (isB n bs)]) ∧ Below w.heap.size w w' := by
  have HR := hid' hr
  have HS := hid' hs
  have HP := hid' (fun i => posB_at (bs := bs) (n := n) i hs)
  clear hr hs
  go_enter Tryd.func39, Tryd.ntmps39
  go_wp2
  go_loopg [9, 10] bs.length (fun gg s9 s10 wr => ∃ lo hi : Nat, s9 = .int .i64 lo ∧ s10 = .int .i64 hi ∧ lo ≤ hi ∧ hi ≤ bs.length ∧ hi - lo ≤ gg ∧ Below w.heap.size w wr ∧
    Hid ((∀ t b, t < lo → bs[t]? = some b → b.1 < n) ∧ (∀ t b, hi ≤ t → bs[t]? = some b → n ≤ b.1)))
  case atStart => exact ⟨0, bs.length, rfl, rfl, Nat.zero_le _, Nat.le_refl _, by omega, bel_refl w, ⟨fun t b ht => by omega, fun t b ht hb => by have := (List.getElem?_eq_some_iff.1 hb).1; omega⟩⟩
  case round =>
    obtain ⟨lo, hi, rfl, rfl, hlh, hin, hg, hB, I⟩ := hrel
    by_cases hlt : lo < hi
    · obtain ⟨k, hk⟩ : ∃ k, k = (lo + hi) / 2 := ⟨_, rfl⟩
      have hmid : ((lo : Int) + (hi : Int)) / 2 = (k : Int) := by omega
      obtain ⟨b, hb⟩ : ∃ b, bs[k]? = some b := ⟨_, List.getElem?_eq_getElem (by omega)⟩
      obtain ⟨ad, rfl, -, hc⟩ := HR.out.below hB k b hb
      have hc0 : wr.cell? (ad.add (k * 2)) = some (.int .i64 b.1) := hc 0 _ rfl
      have hc1 : wr.cell? ⟨(ad.add (k * 2)).block, (ad.add (k * 2)).off + 1, none⟩ = some (.int .i64 (b.2 : Int)) := hc 1 _ rfl
      have hkl : k < bs.length := by omega
      have hk1 : lo ≤ k := by omega
      have hk2 : k < hi := by omega
      have HK := hid' hb
      clear hc hb hk
      by_cases hcb : b.1 < n
      · have hcm : cmpB b.1 n = -1 := by unfold cmpB; rw [if_pos hcb]
        have I2 : Hid ((∀ t b, t < k + 1 → bs[t]? = some b → b.1 < n) ∧ (∀ t b, hi ≤ t → bs[t]? = some b → n ≤ b.1)) := ⟨fun t x ht hx => by
          by_cases e : t = k
          · subst e; have := HK.out; rw [hx] at this; injection this with this; subst this; exact hcb
          · have := sort_get HS.out (show t < k by omega) hx HK.out; omega, I.out.2⟩
        clear hcb I
        go_wp2_with (go_at_call 40; refine (hist_cmp _ _ _ _).mono ?_; rintro e w2 ⟨rfl, hB2⟩)
        all_goals first | (exfalso; omega) | skip
        go_roundg (hi - (k + 1))
        case measure => omega
        case rel => exact ⟨k + 1, hi, by go_num, rfl, by omega, hin, Nat.le_refl _, bel_then hB hB2, I2⟩
      · have hcm : 0 ≤ cmpB b.1 n := by unfold cmpB; rw [if_neg hcb]; split <;> omega
        have I2 : Hid ((∀ t b, t < lo → bs[t]? = some b → b.1 < n) ∧ (∀ t b, k ≤ t → bs[t]? = some b → n ≤ b.1)) := ⟨I.out.1, fun t x ht hx => by
          by_cases e : t = k
          · subst e; have := HK.out; rw [hx] at this; injection this with this; subst this; exact Int.not_lt.1 hcb
          · have := sort_get HS.out (show k < t by omega) HK.out hx; omega⟩
        clear hcb I
        go_wp2_with (go_at_call 40; refine (hist_cmp _ _ _ _).mono ?_; rintro e w2 ⟨rfl, hB2⟩)
        all_goals first | (exfalso; omega) | skip
        go_roundg (k - lo)
        case measure => omega
        case rel => exact ⟨lo, k, rfl, rfl, hk1, by omega, Nat.le_refl _, bel_then hB hB2, I2⟩
    · obtain rfl : hi = lo := by omega
      obtain ⟨e1, e2⟩ := HP.out hi hin I.out.1 I.out.2
      have E1 := hid' e1
      have E2 := hid' e2
      clear e1 e2 I
      by_cases hl : hi < bs.length
      · obtain ⟨b, hb⟩ : ∃ b, bs[hi]? = some b := ⟨_, List.getElem?_eq_getElem hl⟩
        obtain ⟨ad, rfl, -, hc⟩ := HR.out.below hB hi b hb
        have hc0 : wr.cell? (ad.add (hi * 2)) = some (.int .i64 b.1) := hc 0 _ rfl
        have hc1 : wr.cell? ⟨(ad.add (hi * 2)).block, (ad.add (hi * 2)).off + 1, none⟩ = some (.int .i64 (b.2 : Int)) := hc 1 _ rfl
        rw [hb] at E2
        simp only at E2
        clear hc hb
        by_cases hcb : b.1 = n
        · have hcm : cmpB b.1 n = 0 := by unfold cmpB; rw [if_neg (by omega), if_neg (by omega)]
          rw [show decide (b.1 = n) = true from decide_eq_true hcb] at E2
          clear hcb
          go_wp2_with (go_at_call 40; refine (hist_cmp _ _ _ _).mono ?_; rintro e w2 ⟨rfl, hB2⟩; rw [hcm])
          go_ret2
          exact ⟨by rw [E1.out, E2.out]; rfl, bel_then hB hB2⟩
        · have hcm : (cmpB b.1 n == 0) = false := by unfold cmpB; split; rfl; split; rfl; omega
          rw [show decide (b.1 = n) = false from decide_eq_false hcb] at E2
          clear hcb
          go_wp2_with (go_at_call 40; refine (hist_cmp _ _ _ _).mono ?_; rintro e w2 ⟨rfl, hB2⟩)
          go_ret2
          exact ⟨by rw [E1.out, E2.out]; rfl, bel_then hB hB2⟩
      · rw [List.getElem?_eq_none (by omega)] at E2
        simp only at E2
        go_wp2
        go_ret2
        exact ⟨by rw [E1.out, E2.out]; rfl, hB⟩

theorem hist_find (g o B : Nat) (v : Value) (bs : List (Int × Nat)) (n : Int) (w : World) (hc : w.cell? ⟨g, o, none⟩ = some v) (HO : w.ownsRow B 67 2 v bs.length (binC bs)) (hs : SortB bs) (hn : bs.length ≤ 100000) :
    Calls Tryd.prog 33 #[.pointer (some ⟨g, o, none⟩), .int .i64 n] w fun e w' => e = .returned (.tuple #[.int .i64 (posB n bs : Nat), .bool (isB n bs)]) ∧ Below w.heap.size w w' := by
  obtain ⟨A, c, rfl, -, -, hr⟩ := own_rdS HO
  have H := hid' (fun w (hr : RdS w A 2 fBin bs) => slices_BSearch A c bs n w hr hs hn)
  have HR := hid' hr
  clear hr HO hs
  go_enter Tryd.func33, Tryd.ntmps33
  go_wp2_with (go_at_call 39; refine (H.out _ HR.out).mono ?_; rintro e w2 ⟨rfl, hB2⟩)
  go_ret2
  exact ⟨rfl, hB2⟩
def rkR (bs : List (Int × Nat)) (k : Int) : Int × Bool := if k < 1 then (0, false) else rankV (rankB bs k.toNat)
set_option maxHeartbeats 2000000 in
theorem hist_Rank (g o B : Nat) (v : Value) (bs : List (Int × Nat)) (k : Int) (w : World) (hc : w.cell? ⟨g, o, none⟩ = some v) (HO : w.ownsRow B 67 2 v bs.length (binC bs)) (hn : bs.length ≤ 100000) (hk : I64 k) (hsz : ∀ b ∈ bs, b.2 ≤ 100000) :
    Calls Tryd.prog 43 #[.pointer (some ⟨g, o, none⟩), .int .i64 k] w fun e w' => e = .returned (.tuple #[.int .i64 (rkR bs k).1, .bool (rkR bs k).2]) ∧ Below w.heap.size w w' := by
  obtain ⟨A, c, rfl, -, -, hr⟩ := own_rdS HO
  have HR := hid' hr
  have HZ := hid' (fun i b (h : bs[i]? = some b) => hsz b (List.mem_of_getElem? h))
  clear hr HO hsz
  obtain ⟨R, hR⟩ : ∃ R, R = rkR bs k := ⟨_, rfl⟩
  rw [← hR]
  unfold rkR at hR
  by_cases h1 : k < 1
  · rw [if_pos h1] at hR
    subst hR
    go_enter Tryd.func43, Tryd.ntmps43
    go_wp2
    go_ret2
    exact ⟨rfl, bel_refl w⟩
  · rw [if_neg h1] at hR
    have HRR := hid' hR
    clear hR
    unfold I64 at hk
    go_enter Tryd.func43, Tryd.ntmps43
    go_wp2
    go_loopw [1, 15] (fun v1 v15 wr => ∃ (i : Nat) (kk : Nat), v15 = .int .i64 i ∧ v1 = .int .i64 (kk : Int) ∧ i ≤ bs.length ∧ 1 ≤ kk ∧ (kk : Int) ≤ 9223372036854775807 ∧ Below w.heap.size w wr ∧ Hid (R = rankV (rankB (bs.drop i) kk))) (fun _ v15 _ => bs.length - (intOf v15).toNat)
    case atStart => exact ⟨0, k.toNat, rfl, by rw [Int.toNat_of_nonneg (by omega)], Nat.zero_le _, by omega, by omega, bel_refl w, HRR.out⟩
    case round =>
      obtain ⟨i, kk, rfl, rfl, hin, hk1, hk2, hB, HE⟩ := hrel
      clear HRR
      by_cases hlt : i < bs.length
      · obtain ⟨b, hb⟩ : ∃ b, bs[i]? = some b := ⟨_, List.getElem?_eq_getElem hlt⟩
        obtain ⟨ad, rfl, -, hc⟩ := HR.out.below hB i b hb
        have hc0 : wr.cell? (ad.add (i * 2)) = some (.int .i64 b.1) := hc 0 _ rfl
        have hc1 : wr.cell? ⟨(ad.add (i * 2)).block, (ad.add (i * 2)).off + 1, none⟩ = some (.int .i64 (b.2 : Int)) := hc 1 _ rfl
        have hb2 := HZ.out i b hb
        have hdr : bs.drop i = b :: bs.drop (i + 1) := by
          rw [List.drop_eq_getElem_cons hlt]; congr 1; rw [List.getElem?_eq_getElem hlt] at hb; injection hb
        rw [hdr] at HE
        have HE := hid' HE.out
        unfold rankB at HE
        clear hc hb hdr
        by_cases hle : kk ≤ b.2
        · rw [if_pos hle] at HE
          go_wp2
          go_ret2
          exact ⟨by rw [HE.out]; rfl, bel_alloc hB _⟩
        · rw [if_neg hle] at HE
          obtain ⟨k2, hk2e⟩ : ∃ k2, k2 = kk - b.2 := ⟨_, rfl⟩
          have z1 : (kk : Int) - (b.2 : Int) = (k2 : Int) := by omega
          rw [← hk2e] at HE
          have hk3 : 1 ≤ k2 := by omega
          clear hk2e
          go_wp2
          go_roundw
          case rel => exact ⟨i + 1, k2, by go_num, by first | rfl | (congr 1), by omega, hk3, by omega, bel_alloc hB _, HE.out⟩
          case measure => simp [intOf]; omega
      · rw [List.drop_eq_nil_of_le (by omega)] at HE
        have HE := hid' HE.out
        unfold rankB at HE
        go_wp2
        go_ret2
        exact ⟨by rw [HE.out]; rfl, hB⟩
end Go.Proofs.YtckndjgdfhbgcaaDoor
