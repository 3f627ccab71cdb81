
/- Adding to and removing from a row of bins, the percent. No condition. -/
import Derived.Test.YtckndjgdfhbgcaaDoorHist
namespace Go.Proofs.YtckndjgdfhbgcaaDoor
set_option maxRecDepth 100000
set_option linter.unusedSimpArgs false
open Go.RowKit
set_option linter.unusedVariables false

theorem posB_le (n : Int) : ∀ bs : List (Int × Nat), posB n bs ≤ bs.length
  | [] => Nat.le_refl _
  | b :: bs => by rw [posB]; split; simpa using posB_le n bs; exact Nat.zero_le _
theorem isB_at {n : Int} : ∀ {bs : List (Int × Nat)}, isB n bs = true → ∃ k, bs[posB n bs]? = some (n, k) ∧ addB n bs = bs.set (posB n bs) (n, k + 1) ∧ remB n bs = if k = 1 then bs.take (posB n bs) ++ bs.drop (posB n bs + 1) else bs.set (posB n bs) (n, k - 1)
  | [], h => by cases h
  | b :: bs, h => by
    rw [isB] at h
    split at h
    · rename_i hlt
      obtain ⟨k, h1, h2, h3⟩ := isB_at h
      refine ⟨k, ?_, ?_, ?_⟩
      · rw [posB, if_pos hlt]; simpa using h1
      · rw [posB, if_pos hlt, addB, if_pos hlt, h2]; rfl
      · rw [posB, if_pos hlt, remB, if_pos hlt, h3]; split <;> rfl
    · rename_i hlt
      have he : b.1 = n := by simpa using h
      refine ⟨b.2, ?_, ?_, ?_⟩
      · rw [posB, if_neg hlt, ← he]; rfl
      · rw [posB, if_neg hlt, addB, if_neg hlt, if_pos he, he]; rfl
      · rw [posB, if_neg hlt, remB, if_neg hlt, if_pos he, he]; split <;> rfl
theorem isB_not {n : Int} : ∀ {bs : List (Int × Nat)}, isB n bs = false → addB n bs = (bs.take (posB n bs) ++ (n, 0) :: bs.drop (posB n bs)).set (posB n bs) (n, 1) ∧ remB n bs = bs
  | [], h => ⟨rfl, rfl⟩
  | b :: bs, h => by
    rw [isB] at h
    split at h
    · rename_i hlt
      obtain ⟨h1, h2⟩ := isB_not h
      refine ⟨?_, ?_⟩
      · rw [posB, if_pos hlt, addB, if_pos hlt, h1]; rfl
      · rw [remB, if_pos hlt, h2]
    · rename_i hlt
      have he : ¬ b.1 = n := by simpa using h
      refine ⟨?_, ?_⟩
      · rw [posB, if_neg hlt, addB, if_neg hlt, if_neg he]; rfl
      · rw [remB, if_neg hlt, if_neg he]
theorem ins_get (bs : List (Int × Nat)) (p : Nat) (x : Int × Nat) (h : p ≤ bs.length) : (bs.take p ++ x :: bs.drop p)[p]? = some x := by
  rw [List.getElem?_append_right (by simp; omega), List.length_take, Nat.min_eq_left h, Nat.sub_self]; rfl
theorem binC_set : ∀ (bs : List (Int × Nat)) (i : Nat) (a : Int) (m k : Nat), bs[i]? = some (a, k) → (binC bs).set (i * 2 + 1) (.int .i64 (m : Int)) = binC (bs.set i (a, m))
  | [], i, a, m, k, h => by simp at h
  | b :: bs, 0, a, m, k, h => by simp at h; subst h; rfl
  | b :: bs, i + 1, a, m, k, h => by
    rw [show (i + 1) * 2 + 1 = i * 2 + 1 + 1 + 1 by omega]
    simp only [binC, List.set_cons_succ]
    rw [binC_set bs i a m k (by simpa using h)]
theorem own_setB {w : World} {B g c : Nat} {bs : List (Int × Nat)} (h : w.ownsRow B 67 2 (.slice (some ⟨g, 0, none⟩) bs.length c) bs.length (binC bs)) {i : Nat} {a : Int} {k : Nat} (hi : bs[i]? = some (a, k)) (m : Nat) :
    (w.setCell ⟨g, i * 2 + 1, none⟩ (.int .i64 (m : Int))).ownsRow B 67 2 (.slice (some ⟨g, 0, none⟩) bs.length c) bs.length (binC (bs.set i (a, m))) := by
  have hil := (List.getElem?_eq_some_iff.1 hi).1
  rcases h.2 with ⟨h0, _⟩ | ⟨g', cap, cur, hv, hb, hh, h1, h2, h3, h4⟩
  · cases h0
  · injection hv with e1 e2 e3
    injection e1 with e1; injection e1 with e1
    subst e1 e3
    refine ⟨by rw [binC_len, List.length_set], .inr ⟨g, c, cur.setIfInBounds (i * 2 + 1) (.int .i64 (m : Int)), rfl, hb, Blk.set hh _ _, h1, h2, by simpa using h3, ?_⟩⟩
    rw [Array.toList_setIfInBounds, List.take_set, h4, binC_set _ _ _ _ _ hi]
theorem own_cell {w : World} {B : Nat} {v : Value} {bs : List (Int × Nat)} (h : w.ownsRow B 67 2 v bs.length (binC bs)) {i : Nat} {b : Int × Nat} (hi : bs[i]? = some b) :
    ∃ gb c, v = .slice (some ⟨gb, 0, none⟩) bs.length c ∧ B ≤ gb ∧ gb < w.heap.size ∧ (∃ cur, Blk w gb 67 cur) ∧ w.cell? ⟨gb, i * 2 + 1, none⟩ = some (.int .i64 (b.2 : Int)) ∧ w.frozen? ⟨gb, i * 2 + 1, none⟩ = false ∧ i < bs.length := by
  have hil := (List.getElem?_eq_some_iff.1 hi).1
  rcases h.2 with ⟨h0, h1⟩ | ⟨gb, cap, cur, hv, hb, hh, h1, h2, h3, h4⟩
  · omega
  · have hB : Blk w gb 67 cur := hh
    refine ⟨gb, cap, hv, hb, hB.lt, ⟨cur, hB⟩, ?_, hB.frozen _, hil⟩
    have hg := (binC_get hi).2
    rw [← h4, List.getElem?_take] at hg
    split at hg
    · rw [hB.cell]; simpa using hg
    · cases hg

def pcR (bs : List (Int × Nat)) (p : Int) (all : Int) : Int × Bool := rkR bs (max ((p * all + 99) / 100) 1)
theorem hist_Percent (g o B : Nat) (v : Value) (bs : List (Int × Nat)) (p : Int) (all : Nat) (w : World) (hc : w.cell? ⟨g, o, none⟩ = some v) (hca : w.cell? ⟨g, o + 1, none⟩ = some (.int .i64 (all : Int))) (HO : w.ownsRow B 67 2 v bs.length (binC bs))
    (hn : bs.length ≤ 100000) (hsz : ∀ b ∈ bs, b.2 ≤ 100000) (hp0 : 0 ≤ p) (hp1 : p ≤ 100) (hall : all ≤ 100000) :
    Calls Tryd.prog 36 #[.pointer (some ⟨g, o, none⟩), .int .i64 p] w fun e w' => e = .returned (.tuple #[.int .i64 (pcR bs p all).1, .bool (pcR bs p all).2]) ∧ Below w.heap.size w w' := by
  obtain ⟨P, hP⟩ : ∃ P : Nat, (P : Int) = p * (all : Int) := ⟨(p * all).toNat, Int.toNat_of_nonneg (Int.mul_nonneg hp0 (by omega))⟩
  have hPb : P ≤ 10000000 := by
    have h1 : p * (all : Int) ≤ 100 * 100000 := Int.mul_le_mul hp1 (by omega) (by omega) (by omega)
    omega
  obtain ⟨K, hK⟩ : ∃ K : Int, K = max (((P : Int) + 99) / 100) 1 := ⟨_, rfl⟩
  have hKI : I64 K := by unfold I64; omega
  have H := hid' (fun w hc HO => hist_Rank g o B v bs K w hc HO hn hKI hsz)
  have hR : pcR bs p all = rkR bs K := by unfold pcR; rw [hK, hP]
  rw [hR]
  have HO := hid' HO
  have hPI := hP.symm
  have hq : Int.tdiv ((P : Int) + 99) 100 = ((P : Int) + 99) / 100 := Int.tdiv_eq_ediv_of_nonneg (by omega)
  have HK := hid' hK
  clear hP hR hK
  go_enter Tryd.func36, Tryd.ntmps36
  go_wp2_with (go_at_call 43; rw [← HK.out]; refine (H.out _ hc HO.out).mono ?_; rintro e w2 ⟨rfl, hB2⟩)
  go_ret2
  exact ⟨rfl, hB2⟩

theorem setIfInBounds_self {α : Type} {cs : Array α} {o : Nat} {v : α} (h : cs[o]? = some v) : cs.setIfInBounds o v = cs := by
  apply Array.ext_getElem?
  intro i
  rw [Array.getElem?_setIfInBounds]
  split
  · rename_i e; subst e; split
    · exact h.symm
    · rename_i hn; rw [(Array.getElem?_eq_some_iff.1 h).2.symm] at *; exact absurd (Array.getElem?_eq_some_iff.1 h).1 hn
  · rfl
/-- The struct of a Hist within a block: where its row and its sum stand, and what they tell. -/
def HistI (w : World) (g o : Nat) (T : TypeId) (cs : Array Value) (B : Nat) (v : Value) (bs : List (Int × Nat)) : Prop :=
  Blk w g T cs ∧ cs[o]? = some v ∧ cs[o + 1]? = some (.int .i64 (totB bs : Nat)) ∧ w.ownsRow B 67 2 v bs.length (binC bs) ∧ SortB bs ∧ totB bs ≤ 10000 ∧ B ≤ w.heap.size ∧ T ≠ 67
theorem totB_add (n : Int) (bs : List (Int × Nat)) : totB (addB n bs) = totB bs + 1 := by
  induction bs with
  | nil => rfl
  | cons b bs ih =>
    rw [addB]
    split
    · rw [totB_cons, totB_cons, ih]; omega
    · split
      · rw [totB_cons, totB_cons]; show b.2 + 1 + _ = _; omega
      · rw [totB_cons, totB_cons]; show 1 + _ = _; omega
theorem totB_rem (n : Int) : ∀ {bs : List (Int × Nat)}, SortB bs → isB n bs = true → totB (remB n bs) + 1 = totB bs
  | [], _, h => by cases h
  | b :: bs, hs, h => by
    have hb := hs.2 b List.mem_cons_self
    rw [isB] at h
    rw [remB]
    split at h
    · rename_i hlt
      rw [if_pos hlt, totB_cons, totB_cons, ← totB_rem n hs.tail h]; omega
    · rename_i hlt
      rw [if_neg hlt, if_pos (by simpa using h)]
      split
      · rw [totB_cons]; omega
      · rw [totB_cons, totB_cons]; show b.2 - 1 + _ + 1 = _; omega
theorem len_totB : ∀ {bs : List (Int × Nat)}, SortB bs → bs.length ≤ totB bs ∧ ∀ b ∈ bs, b.2 ≤ totB bs
  | [], _ => ⟨Nat.le_refl _, fun b hb => by cases hb⟩
  | b :: bs, hs => by
    have hb := hs.2 b List.mem_cons_self
    obtain ⟨h1, h2⟩ := len_totB hs.tail
    rw [totB_cons]
    refine ⟨by simp; omega, fun x hx => ?_⟩
    rcases List.mem_cons.1 hx with e | e
    · rw [e]; omega
    · have := h2 x e; omega
theorem HistI.rank {w : World} {g o B : Nat} {T : TypeId} {cs : Array Value} {v : Value} {bs : List (Int × Nat)} (h : HistI w g o T cs B v bs) (k : Int) (hk : I64 k) :
    Calls Tryd.prog 43 #[.pointer (some ⟨g, o, none⟩), .int .i64 k] w fun e w' => e = .returned (.tuple #[.int .i64 (rkR bs k).1, .bool (rkR bs k).2]) ∧ Below w.heap.size w w' := by
  obtain ⟨h1, h2, h3, h4, h5, h6, h7⟩ := h
  obtain ⟨l1, l2⟩ := len_totB h5
  exact hist_Rank g o B v bs k w (by rw [h1.cell, h2]) h4 (by omega) hk (fun b hb => by have := l2 b hb; omega)
theorem HistI.percent {w : World} {g o B : Nat} {T : TypeId} {cs : Array Value} {v : Value} {bs : List (Int × Nat)} (h : HistI w g o T cs B v bs) (p : Int) (hp0 : 0 ≤ p) (hp1 : p ≤ 100) :
    Calls Tryd.prog 36 #[.pointer (some ⟨g, o, none⟩), .int .i64 p] w fun e w' => e = .returned (.tuple #[.int .i64 (pcR bs p (totB bs : Nat)).1, .bool (pcR bs p (totB bs : Nat)).2]) ∧ Below w.heap.size w w' := by
  obtain ⟨h1, h2, h3, h4, h5, h6, h7⟩ := h
  obtain ⟨l1, l2⟩ := len_totB h5
  exact hist_Percent g o B v bs p (totB bs) w (by rw [h1.cell, h2]) (by rw [h1.cell, h3]) h4 (by omega) (fun b hb => by have := l2 b hb; omega) hp0 hp1 (by omega)
theorem HistI.below {w w' : World} {g o B : Nat} {T : TypeId} {cs : Array Value} {v : Value} {bs : List (Int × Nat)} (h : HistI w g o T cs B v bs) (hb : Below w.heap.size w w') : HistI w' g o T cs B v bs := by
  obtain ⟨h1, h2, h3, h4, h5, h6, h7, h8⟩ := h
  exact ⟨h1.below hb, h2, h3, own_below h4 hb, h5, h6, Nat.le_trans h7 hb.size, h8⟩
theorem HistI.ne {w : World} {g o B : Nat} {T : TypeId} {cs : Array Value} {v : Value} {bs : List (Int × Nat)} (h : HistI w g o T cs B v bs) : v.ownBlock ≠ some g := own_ne' h.2.2.2.1 h.1 (fun e => h.2.2.2.2.2.2.2 e.symm)

set_option maxHeartbeats 4000000 in
theorem HistI.add {w : World} {g o B : Nat} {T : TypeId} {cs : Array Value} {v : Value} {bs : List (Int × Nat)} (h : HistI w g o T cs B v bs) (n : Int) (hb : totB bs < 10000) :
    Calls Tryd.prog 28 #[.pointer (some ⟨g, o, none⟩), .int .i64 n] w fun e w' => e = .returned (.tuple #[]) ∧ ∃ v', HistI w' g o T ((cs.setIfInBounds o v').setIfInBounds (o + 1) (.int .i64 (totB (addB n bs) : Nat))) B v' (addB n bs) ∧
      Mod (fun k => k = g ∨ v.ownBlock = some k) w w' ∧ (v'.ownBlock = v.ownBlock ∨ ∃ b, v'.ownBlock = some b ∧ w.heap.size ≤ b) := by
  have hne := h.ne
  obtain ⟨h1, h2, h3, h4, h5, h6, h7, h8⟩ := h
  obtain ⟨l1, l2⟩ := len_totB h5
  have ht := totB_add n bs
  have hsz : bs.length ≤ 100000 := by omega
  have hc : w.cell? ⟨g, o, none⟩ = some v := by rw [h1.cell, h2]
  have hc1 : w.cell? ⟨g, o + 1, none⟩ = some (.int .i64 (totB bs : Nat)) := by rw [h1.cell, h3]
  have HF := hid' (hist_find g o B v bs n w hc h4 h5 hsz)
  have HW := hid' (And.intro h1 (And.intro h4 (And.intro h7 (And.intro h2 h3))))
  have HS := hid' (addB_sort n h5)
  cases hi : isB n bs
  · obtain ⟨ha, -⟩ := isB_not hi
    rw [hi] at HF
    have HA := hid' ha
    have HT := hid' ht
    have hpl := posB_le n bs
    obtain ⟨p, hp⟩ : ∃ p, p = posB n bs := ⟨_, rfl⟩
    rw [← hp] at HF HA hpl
    obtain ⟨A, cc, rfl, -, -, -⟩ := own_rd h4
    obtain ⟨bs1, hbs1⟩ : ∃ bs1, bs1 = bs.take p ++ (n, 0) :: bs.drop p := ⟨_, rfl⟩
    have hlen1 : bs1.length = bs.length + 1 := by rw [hbs1]; simp; omega
    have hget := ins_get bs p (n, 0) hpl
    rw [← hbs1] at HA hget
    have HK := hid' hget
    have HBS := hid' hbs1
    obtain ⟨t1, ht1⟩ : ∃ t1 : Nat, t1 = totB bs + 1 := ⟨_, rfl⟩
    have y2 : (totB bs : Int) + 1 = (t1 : Int) := by omega
    have y4 : IntKind.i64.wrap (t1 : Int) = (t1 : Int) := by rw [IntKind.wrap_i64]; omega
    rw [← ht1] at HT
    have HTT := hid' ht1
    have HLN := hid' hlen1
    clear hp hi ha ht h2 h3 h5 h7 l2 hc hc1 h1 h4 hbs1 hget ht1 hlen1
    go_enter Tryd.func28, Tryd.ntmps28
    go_wp2_with (first
      | (go_at_call 33; refine (HF.out).mono ?_; rintro e w2 ⟨rfl, hB2⟩; have HW2 := hid' (And.intro (HW.out.1.below hB2) (own_below HW.out.2.1 hB2)); have d0 : w2.cell? ⟨g, o, none⟩ = some (.slice A bs.length cc) := (by rw [HW2.out.1.cell, HW.out.2.2.2.1]))
      | (go_at_call 35; refine (slices_InsertB B w2.heap.size p (.slice A bs.length cc) bs (n, 0) _ ((own_below HW2.out.2 (bel_alloc (bel_refl w2) _))) (Blk.new_ w2 _ _) ?_ hpl hsz ?_).mono ?_
         · intro hx; have := own_lt' HW2.out.2 _ hx; omega
         · have := HW.out.2.2.1; have := hB2.size; simp; omega
         rintro e w3 ⟨v3, rfl, hO3, hM3, hv3⟩
         rw [← HBS.out, ← HLN.out] at hO3
         have HW3 := hid' (And.intro ((HW2.out.1.alloc (.cells #[.int .i64 n, .int .i64 0] 67)).mod hM3 hne) hO3)
         obtain ⟨gb, c, rfl, hBg, hgl, -, d2, f2, hpl3⟩ := own_cell hO3 HK.out
         have hgg' : gb ≠ g := fun e => own_ne' HW3.out.2 HW3.out.1 (fun e => h8 e.symm) (by rw [e]; rfl)
         have hgg : g ≠ gb := Ne.symm hgg'
         have d1 : w3.cell? ⟨g, o + 1, none⟩ = some (.int .i64 (totB bs : Nat)) := by rw [HW3.out.1.cell, HW.out.2.2.2.2]
         have d0 : (w3.cell? ⟨g, o, none⟩) = some (.slice A bs.length cc) := by rw [HW3.out.1.cell, HW.out.2.2.2.1]
         have f0 := HW3.out.1.frozen o
         have f1 := HW3.out.1.frozen (o + 1)
         simp only at d2
         have d2 : w3.cell? ⟨gb, p * 2 + 1, none⟩ = some (.int .i64 0) := d2
         have HM3 := hid' (And.intro hM3 hv3)
         have HBG := hid' hBg
         clear hO3 hM3 hv3 hgl hBg))
    go_end0
    have hsz0 := (Array.getElem?_eq_some_iff.1 HW.out.2.2.2.1).1
    have hsz1 := (Array.getElem?_eq_some_iff.1 HW.out.2.2.2.2).1
    have hgown : (Value.slice (some ⟨gb, 0, none⟩) bs1.length c).ownBlock ≠ some g := own_ne' HW3.out.2 HW3.out.1 (fun e => h8 e.symm)
    refine ⟨rfl, .slice (some ⟨gb, 0, none⟩) bs1.length c, ⟨?_, ?_, ?_, ?_, HS.out, ?_, ?_, h8⟩, ?_, ?_⟩
    · rw [HT.out]
      exact (((HW3.out.1.set o _).far (p := ⟨gb, p * 2 + 1, none⟩) hgg _).set _ _)
    · rw [Array.getElem?_setIfInBounds, if_neg (by omega), Array.getElem?_setIfInBounds, if_pos rfl, if_pos hsz0]
    · rw [Array.getElem?_setIfInBounds, if_pos rfl, if_pos (by rw [Array.size_setIfInBounds]; exact hsz1)]
    · rw [HA.out]
      have h0 := own_set' HW3.out.2 (p := ⟨g, o, none⟩) hgown (.slice (some ⟨gb, 0, none⟩) bs1.length c)
      have h1 := own_set' (own_setB h0 HK.out 1) (p := ⟨g, o + 1, none⟩) hgown (.int .i64 (t1 : Int))
      rw [List.length_set]; exact h1
    · rw [HT.out]; have := HTT.out; omega
    · have h1 := HW.out.2.2.1; have h2 := hB2.size; have h3 := HM3.out.1.size; simp at h3 ⊢; omega
    · have hm2 : Mod (fun k => k = g ∨ (Value.slice A bs.length cc).ownBlock = some k) w (w2.alloc (.cells #[.int .i64 n, .int .i64 0] 67)) := (Mod.of_below hB2).alloc _
      have hm3 := hm2.then_ HM3.out.1 (fun i _ h => .inr h)
      refine ((hm3.setCell (p := ⟨g, o, none⟩) (fun _ => .inl rfl) _).setCell (p := ⟨gb, p * 2 + 1, none⟩) ?_ _).setCell (p := ⟨g, o + 1, none⟩) (fun _ => .inl rfl) _
      intro hlt
      rcases HM3.out.2 with h | ⟨b, h, hle⟩
      · exact .inr (by rw [← h]; rfl)
      · exfalso
        have hb2 := hB2.size
        have h : gb = b := by simpa [Value.ownBlock] using h
        simp at hle hlt
        omega
    · rcases HM3.out.2 with h | ⟨b, h, hle⟩
      · exact .inl h
      · exact .inr ⟨b, h, by have hb2 := hB2.size; simp at hle; omega⟩
  · obtain ⟨k, hk, ha, -⟩ := isB_at hi
    rw [hi] at HF
    have HA := hid' ha
    have HT := hid' ht
    have hkb := l2 _ (List.mem_of_getElem? hk)
    simp only at hkb
    obtain ⟨p, hp⟩ : ∃ p, p = posB n bs := ⟨_, rfl⟩
    rw [← hp] at HF HA hk
    have HK := hid' hk
    obtain ⟨gb, c, rfl, hBg, hgl, ⟨cur, hcur⟩, hcc, hff, hpl⟩ := own_cell h4 hk
    have hgg : g ≠ gb := fun e => hne (by rw [e]; rfl)
    have hgg' : gb ≠ g := Ne.symm hgg
    have HGG := hid' hgl
    obtain ⟨k1, hk1⟩ : ∃ k1 : Nat, k1 = k + 1 := ⟨_, rfl⟩
    obtain ⟨t1, ht1⟩ : ∃ t1 : Nat, t1 = totB bs + 1 := ⟨_, rfl⟩
    have y1 : (k : Int) + 1 = (k1 : Int) := by omega
    have y2 : (totB bs : Int) + 1 = (t1 : Int) := by omega
    have y3 : IntKind.i64.wrap (k1 : Int) = (k1 : Int) := by rw [IntKind.wrap_i64]; omega
    have y4 : IntKind.i64.wrap (t1 : Int) = (t1 : Int) := by rw [IntKind.wrap_i64]; omega
    rw [← hk1] at HA
    rw [← ht1] at HT
    have HTT := hid' ht1
    clear hk1 ht1
    simp only at hcc
    clear hp hi ha ht h2 h3 h5 h7 l2 hk hc hc1 hcc hff hcur hgl h1 h4
    go_enter Tryd.func28, Tryd.ntmps28
    go_wp2_with (go_at_call 33; refine (HF.out).mono ?_; rintro e w2 ⟨rfl, hB2⟩; have HW2 := hid' (And.intro (HW.out.1.below hB2) (own_below HW.out.2.1 hB2)); have d0 : w2.cell? ⟨g, o, none⟩ = some (.slice (some ⟨gb, 0, none⟩) bs.length c) := (by rw [HW2.out.1.cell, HW.out.2.2.2.1]); have d1 : w2.cell? ⟨g, o + 1, none⟩ = some (.int .i64 (totB bs : Nat)) := (by rw [HW2.out.1.cell, HW.out.2.2.2.2]); have f1 := HW2.out.1.frozen (o + 1); obtain ⟨gb', c', hve, -, -, ⟨cur, hcur⟩, d2, f2, -⟩ := own_cell HW2.out.2 HK.out; injection hve with hve _ hce; injection hve with hve; injection hve with hve; subst hve hce; simp only at d2)
    go_end0
    refine ⟨rfl, .slice (some ⟨gb, 0, none⟩) bs.length c, ⟨?_, ?_, ?_, ?_, HS.out, ?_, ?_, h8⟩, ?_, .inl rfl⟩
    · rw [setIfInBounds_self HW.out.2.2.2.1, HT.out]
      exact (HW2.out.1.far (p := ⟨gb, p * 2 + 1, none⟩) hgg _).set _ _
    · rw [setIfInBounds_self HW.out.2.2.2.1, Array.getElem?_setIfInBounds, if_neg (by omega)]; exact HW.out.2.2.2.1
    · rw [Array.getElem?_setIfInBounds, if_pos rfl, if_pos (by rw [Array.size_setIfInBounds]; exact (Array.getElem?_eq_some_iff.1 HW.out.2.2.2.2).1)]
    · rw [HA.out]
      have := own_set' (own_setB HW2.out.2 HK.out k1) (p := ⟨g, o + 1, none⟩) hne (.int .i64 (t1 : Int))
      rw [List.length_set]; exact this
    · rw [HT.out]; have := HTT.out; omega
    · simp; exact Nat.le_trans HW.out.2.2.1 hB2.size
    · refine (Mod.of_below hB2).then_ ((Mod.refl (fun k => k = g ∨ (Value.slice (some ⟨gb, 0, none⟩) bs.length c).ownBlock = some k) w2).setCell (p := ⟨gb, p * 2 + 1, none⟩) (fun _ => .inr rfl) _ |>.setCell (p := ⟨g, o + 1, none⟩) (fun _ => .inl rfl) _) (fun i _ h => h)
end Go.Proofs.YtckndjgdfhbgcaaDoor
