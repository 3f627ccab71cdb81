
/- Records one behind the other, cut anywhere: the plain law of what is built and what is read. No condition. -/
import Derived.Test.YteifpdpppndipaaLogPure
namespace Go.Proofs.Yteifpdpppndipaa
set_option maxRecDepth 100000
set_option linter.unusedSimpArgs false
open Go.RowKit
set_option linter.unusedVariables false
set_option linter.unusedSimpArgs false

/-! ### reading on -/
theorem pSt_more (s : ByteArray) (hs : s.size ≤ 1000000) (j : Nat) : ∀ m, ∃ l, (pSt s (j + m)).1 = (pSt s j).1 ++ l := by
  intro m
  induction m with
  | zero => exact ⟨[], by simp⟩
  | succ m ih =>
    obtain ⟨l, hl⟩ := ih
    by_cases h : pLive s (pSt s (j + m)).2
    · obtain ⟨r, n, _, _, _, h2, _⟩ := pStep_live h hs
      refine ⟨l ++ [r], ?_⟩
      show (pStep s (pSt s (j + m))).1 = _
      rw [h2, hl, List.append_assoc]
    · refine ⟨l, ?_⟩
      show (pStep s (pSt s (j + m))).1 = _
      rw [pStep_stay h, hl]
theorem pSt_live {s : ByteArray} {i k : Nat} (hik : i < k) (hi : (pSt s i).1.length = i) (hk : (pSt s k).1.length = k) : pLive s (pSt s i).2 := by
  apply Classical.byContradiction
  intro h
  have h1 := pSt_stay h (k - i)
  rw [show i + (k - i) = k by omega] at h1
  rw [h1] at hk
  omega
/-- One further record, told whole. -/
theorem pSt_round {s : ByteArray} (hs : s.size ≤ 1000000) {i k : Nat} (hik : i < k) (hi : (pSt s i).1.length = i) (hk : (pSt s k).1.length = k) :
    ∃ r n, fGet (s.extract (pSt s i).2 s.size) = (r, ((n : Nat) : Int), 0) ∧ (pSt s i).2 < s.size ∧ 0 < n ∧ (pSt s i).2 + n ≤ s.size ∧ pSt s (i + 1) = ((pSt s i).1 ++ [r], (pSt s i).2 + n) ∧ fFull r = s.extract (pSt s i).2 ((pSt s i).2 + n) ∧ (fFull r).size = n ∧ fCheck r = 0 ∧ I64 r.2.1 ∧ (pSt s k).1[i]? = some r := by
  have hl := pSt_live hik hi hk
  obtain ⟨r, n, h1, h2, h3, h4, h5, h6, h7⟩ := pStep_live hl hs
  refine ⟨r, n, h1, hl.1, h2, h3, h4, h5, ?_, h6, h7, ?_⟩
  · rw [h5, ByteArray.size_extract]; omega
  · obtain ⟨l, hm⟩ := pSt_more s hs (i + 1) (k - (i + 1))
    rw [show i + 1 + (k - (i + 1)) = k by omega] at hm
    rw [hm, show (pSt s (i + 1)).1 = (pSt s i).1 ++ [r] from by rw [show pSt s (i + 1) = _ from h4]]
    rw [List.append_assoc, List.getElem?_append_right (by omega), hi, Nat.sub_self]
    rfl
/-! ### the bytes of records -/
def bCat : List Rec → ByteArray
  | [] => ⟨#[]⟩
  | r :: l => fFull r ++ bCat l
def rOk (r : Rec) : Prop := fCheck r = 0 ∧ I64 r.2.1
theorem bl_cat_app (a b : List Rec) : bl (bCat (a ++ b)) = bl (bCat a) ++ bl (bCat b) := by
  induction a with
  | nil => rfl
  | cons r a ih => simp only [List.cons_append, bCat]; rw [bl_app, bl_app, ih, List.append_assoc]
theorem bCat_app (a b : List Rec) : bCat (a ++ b) = bCat a ++ bCat b := bl_inj (by rw [bl_cat_app, bl_app])
theorem bCat_snoc (a : List Rec) (r : Rec) : bCat (a ++ [r]) = bCat a ++ fFull r := by
  apply bl_inj
  rw [bl_cat_app, bl_app]
  show _ ++ bl (fFull r ++ ⟨#[]⟩) = _
  rw [bl_app]
  show _ ++ (_ ++ []) = _
  rw [List.append_nil]
theorem size_app (a b : ByteArray) : (a ++ b).size = a.size + b.size := by rw [size_bl, bl_app, List.length_append, ← size_bl, ← size_bl]
theorem bCat_size_snoc (a : List Rec) (r : Rec) : (bCat (a ++ [r])).size = (bCat a).size + (fFull r).size := by rw [bCat_snoc, size_app]
/-- What was read is the bytes of what was read. -/
theorem pSt_cat (s : ByteArray) (hs : s.size ≤ 1000000) : ∀ k, bCat (pSt s k).1 = s.extract 0 (pSt s k).2 ∧ ∀ r ∈ (pSt s k).1, rOk r := by
  intro k
  induction k with
  | zero =>
    refine ⟨?_, fun r hr => by cases hr⟩
    apply bl_inj
    rw [bl_ext]; simp [pSt, bCat]; rfl
  | succ k ih =>
    by_cases h : pLive s (pSt s k).2
    · obtain ⟨r, n, _, _, h1, h2, h3, h4, h5⟩ := pStep_live h hs
      have h2 : pSt s (k + 1) = _ := h2
      rw [h2]
      refine ⟨?_, ?_⟩
      · show bCat ((pSt s k).1 ++ [r]) = _
        rw [bCat_snoc, ih.1, h3]
        apply bl_inj
        rw [bl_app, bl_ext, bl_ext, bl_ext]
        simp only [List.drop_zero, Nat.sub_zero]
        rw [show (pSt s k).2 + n - (pSt s k).2 = n by omega, List.take_add]
      · intro x hx
        rcases List.mem_append.1 hx with hx | hx
        · exact ih.2 x hx
        · rw [List.mem_singleton] at hx; subst hx; exact ⟨h4, h5⟩
    · have h2 : pSt s (k + 1) = pSt s k := pStep_stay h
      rw [h2]; exact ih
/-- A record that stands at the place is read. -/
theorem pStep_full {a more : ByteArray} {r : Rec} (hr : rOk r) (l : List Rec) : pStep (a ++ (fFull r ++ more)) (l, a.size) = (l ++ [r], a.size + (fFull r).size) := by
  have hx : (a ++ (fFull r ++ more)).extract a.size (a ++ (fFull r ++ more)).size = fFull r ++ more := by
    apply bl_inj
    rw [bl_ext, size_app, bl_app, size_bl a, List.drop_left, Nat.add_sub_cancel_left, List.take_of_length_le (by rw [← size_bl]; exact Nat.le_refl _)]
  have hg := fGet_full hr.1 hr.2 more
  have h0 : 0 < (fFull r).size := by
    unfold fFull; rw [size_app, cseal_size]; omega
  unfold pStep
  rw [hx, hg]
  simp only [if_true]
  rw [if_pos (by rw [size_app, size_app]; omega)]
  simp
theorem pSt_cat_from (a : ByteArray) (l0 : List Rec) (j : Nat) : ∀ (l : List Rec) (more : ByteArray), (∀ r ∈ l, rOk r) → ∀ (s : ByteArray), s = a ++ (bCat l ++ more) → pSt s j = (l0, a.size) → pSt s (j + l.length) = (l0 ++ l, a.size + (bCat l).size) := by
  intro l
  induction l generalizing a l0 j with
  | nil =>
    intro more _ s hs h
    rw [List.length_nil, Nat.add_zero, h, List.append_nil]; rfl
  | cons r l ih =>
    intro more hok s hs h
    have hs1 : s = a ++ (fFull r ++ (bCat l ++ more)) := by
      rw [hs]; apply bl_inj
      show bl (a ++ ((fFull r ++ bCat l) ++ more)) = _
      simp only [bl_app, List.append_assoc]
    have hs2 : s = (a ++ fFull r) ++ (bCat l ++ more) := by
      rw [hs1]; apply bl_inj
      simp only [bl_app, List.append_assoc]
    have h1 : pSt s (j + 1) = (l0 ++ [r], (a ++ fFull r).size) := by
      show pStep s (pSt s j) = _
      rw [h, hs1, pStep_full (hok r (List.mem_cons_self ..)), size_app]
    have := ih (a ++ fFull r) (l0 ++ [r]) (j + 1) more (fun x hx => hok x (List.mem_cons_of_mem _ hx)) s hs2 h1
    rw [show j + (r :: l).length = j + 1 + l.length by simp; omega, this, List.append_assoc]
    refine Prod.ext rfl ?_
    show (a ++ fFull r).size + (bCat l).size = a.size + (fFull r ++ bCat l).size
    rw [size_app, size_app]; omega
theorem pSt_built (l : List Rec) (more : ByteArray) (hok : ∀ r ∈ l, rOk r) : pSt (bCat l ++ more) l.length = (l, (bCat l).size) := by
  have := pSt_cat_from ⟨#[]⟩ [] 0 l more hok (bCat l ++ more) (by apply bl_inj; rw [bl_app]; rfl) rfl
  rw [Nat.zero_add] at this
  rw [this]
  refine Prod.ext rfl ?_
  show (⟨#[]⟩ : ByteArray).size + _ = _
  rw [show (⟨#[]⟩ : ByteArray).size = 0 from rfl, Nat.zero_add]
/-! ### a part of a record -/
theorem vgetFrom_part (f : Nat) : ∀ q i n m, q ≤ f → q * 128 ^ i < 18446744073709551616 → (0 < i → 0 < q) → m < (vput q).length → vgetFrom i n ((vput q).take m) = (0, 0, 1) := by
  induction f with
  | zero =>
    intro q i n m hf hb hi hm
    have : q = 0 := by omega
    subst this
    rw [vput_lt (by omega)] at hm ⊢
    have : m = 0 := by simpa using hm
    subst this
    simp [vgetFrom]
  | succ f ih =>
    intro q i n m hf hb hi hm
    by_cases hq : q < 128
    · rw [vput_lt hq] at hm ⊢
      have : m = 0 := by simpa using hm
      subst this
      simp [vgetFrom]
    · have hi9 : i ≤ 9 := by
        by_cases h : i ≤ 9
        · exact h
        · have h2 : 128 ^ 10 ≤ 128 ^ i := Nat.pow_le_pow_right (by omega) (by omega)
          have h3 : (128 : Nat) ^ 10 = 1180591620717411303424 := by decide
          have h4 : 1 * 128 ^ i ≤ q * 128 ^ i := Nat.mul_le_mul_right _ (hi (by omega))
          omega
      have h9 : i = 9 → q ≤ 1 := by
        rintro rfl
        rw [pow9] at hb
        omega
      rw [vput_ge hq] at hm ⊢
      cases m with
      | zero => simp [vgetFrom]
      | succ m =>
        have ht : (UInt8.ofNat (q % 128 + 128)).toNat = q % 128 + 128 := by simp; omega
        rw [List.take_succ_cons]
        simp only [vgetFrom, ht]
        have h9' : i ≠ 9 := by intro e; have := h9 e; omega
        have hmul : q / 128 * 128 ^ (i + 1) ≤ q * 128 ^ i := by
          rw [Nat.pow_succ, Nat.mul_comm (128 ^ i) 128, ← Nat.mul_assoc]
          exact Nat.mul_le_mul_right _ (by omega)
        rw [if_neg (by omega), if_neg (by omega), ih (q / 128) (i + 1) _ m (by omega) (by omega) (by omega) (by simpa using hm)]
theorem fGet_part {r : Rec} (hr : rOk r) {m : Nat} (hm : m < (fFull r).size) : fGet ((fFull r).extract 0 m) = (zRec, 0, 1) := by
  obtain ⟨hc, ht⟩ := hr
  unfold fCheck at hc
  split at hc
  · rename_i hk
    split at hc
    · cases hc
    · rename_i hle
      have hpos := vput_pos (vfold r.2.1)
      have hsz := recBody_size r
      obtain ⟨N, hN⟩ : ∃ N : Nat, N = (recBody r).size := ⟨_, rfl⟩
      have hb : bl ((fFull r).extract 0 m) = (vput N ++ bl (cseal (recBody r))).take m := by
        rw [bl_ext, List.drop_zero, Nat.sub_zero]; unfold fFull; rw [bl_app, bl_str, hN]
      have hfs : (fFull r).size = (vput N).length + N + 4 := by
        unfold fFull; rw [size_bl, bl_app, List.length_append, bl_str, ← size_bl, cseal_size, hN]; omega
      have hps : ((fFull r).extract 0 m).size = m := by rw [ByteArray.size_extract]; omega
      by_cases h1 : m < (vput N).length
      · have hv : vget (bl ((fFull r).extract 0 m)) = (0, 0, 1) := by
          rw [hb, List.take_append_of_le_length (Nat.le_of_lt h1)]
          exact vgetFrom_part N N 0 0 m (Nat.le_refl _) (by omega) (by omega) h1
        unfold fGet
        rw [hv]
        simp
      · have hv : vget (bl ((fFull r).extract 0 m)) = (N, (vput N).length, 0) := by
          rw [hb, List.take_append, List.take_of_length_le (by omega)]
          exact vget_put N _ (by omega)
        unfold fGet
        rw [hv]
        simp only [if_true]
        rw [if_neg (by omega), if_pos (by rw [hps]; omega)]
  · cases hc
/-- Bytes cut anywhere: just those records that are whole are read. -/
theorem cut_law (l : List Rec) (hok : ∀ r ∈ l, rOk r) (k n : Nat) (hk : k ≤ (bCat l).size) (hn : n ≤ l.length) (hv : (bCat (l.take n)).size ≤ k) (hx : ∀ r, l[n]? = some r → k < (bCat (l.take n)).size + (fFull r).size) :
    pSt ((bCat l).extract 0 k) n = (l.take n, (bCat (l.take n)).size) ∧ ¬ pLive ((bCat l).extract 0 k) (bCat (l.take n)).size ∧ pErr ((bCat l).extract 0 k) (bCat (l.take n)).size = if (bCat (l.take n)).size = k then 0 else 1 := by
  obtain ⟨v, hvv⟩ : ∃ v, v = (bCat (l.take n)).size := ⟨_, rfl⟩
  have hcat : bl (bCat l) = bl (bCat (l.take n)) ++ bl (bCat (l.drop n)) := by
    rw [← bl_cat_app, List.take_append_drop]
  have hlen : (bl (bCat (l.take n))).length = v := by rw [← size_bl, hvv]
  have hes : ((bCat l).extract 0 k).size = k := by rw [ByteArray.size_extract]; omega
  have h1 : (bCat l).extract 0 k = bCat (l.take n) ++ (bCat (l.drop n)).extract 0 (k - v) := by
    apply bl_inj
    rw [bl_ext, bl_app, bl_ext, hcat, List.drop_zero, List.drop_zero, Nat.sub_zero, Nat.sub_zero, List.take_append, hlen, List.take_of_length_le (by omega)]
  have h2 : pSt ((bCat l).extract 0 k) n = (l.take n, v) := by
    have := pSt_built (l.take n) ((bCat (l.drop n)).extract 0 (k - v)) (fun r hr => hok r (List.mem_of_mem_take hr))
    rw [← h1, List.length_take, Nat.min_eq_left hn] at this
    rw [this, hvv]
  rw [← hvv] at hv hx ⊢
  refine ⟨h2, ?_⟩
  by_cases he : v = k
  · rw [if_pos he]
    refine ⟨fun h => ?_, ?_⟩
    · have := h.1; omega
    · unfold pErr; rw [if_neg (by omega)]
  · rw [if_neg he]
    have hnl : n < l.length := by
      by_cases h : n < l.length
      · exact h
      · rw [List.take_of_length_le (by omega)] at hvv
        omega
    obtain ⟨r, hr⟩ : ∃ r, l[n]? = some r := ⟨l[n], List.getElem?_eq_getElem hnl⟩
    have hxr := hx r hr
    have hdrop : l.drop n = r :: l.drop (n + 1) := by
      rw [List.drop_eq_getElem_cons hnl]
      congr 1
      rw [List.getElem?_eq_getElem hnl] at hr
      exact Option.some.inj hr
    have hro : rOk r := hok r (List.mem_of_getElem? hr)
    have hx2 : ((bCat l).extract 0 k).extract v ((bCat l).extract 0 k).size = (fFull r).extract 0 (k - v) := by
      apply bl_inj
      rw [hes, bl_ext, bl_ext, bl_ext, hcat, hdrop]
      show List.take (k - v) (List.drop v (List.take (k - 0) (List.drop 0 (_ ++ bl (fFull r ++ bCat (l.drop (n + 1))))))) = _
      rw [bl_app, List.drop_zero, List.drop_zero, Nat.sub_zero, Nat.sub_zero, List.take_append, hlen, List.take_of_length_le (l := bl (bCat (l.take n))) (by omega), List.drop_append, hlen, List.drop_of_length_le (l := bl (bCat (l.take n))) (by omega), Nat.sub_self, List.drop_zero, List.nil_append, List.take_take, Nat.min_self, List.take_append_of_le_length (by rw [← size_bl]; omega)]
    have hg := fGet_part hro (m := k - v) (by omega)
    refine ⟨fun h => ?_, ?_⟩
    · have := h.2; rw [hx2, hg] at this; cases this
    · unfold pErr; rw [if_pos (by omega), hx2, hg]
/-! ### one log behind another -/
theorem ext_shift (a m : ByteArray) (v : Nat) : (a ++ m).extract (a.size + v) (a ++ m).size = m.extract v m.size := by
  apply bl_inj
  rw [bl_ext, bl_ext, bl_app, size_app, size_bl a, List.drop_append, List.drop_of_length_le (by omega), List.nil_append, Nat.add_sub_cancel_left, show (bl a).length + m.size - ((bl a).length + v) = m.size - v by omega]
theorem pErr_shift (a m : ByteArray) (v : Nat) : pErr (a ++ m) (a.size + v) = pErr m v := by
  unfold pErr
  rw [ext_shift, size_app]
  by_cases h : v < m.size
  · rw [if_pos h, if_pos (by omega)]
  · rw [if_neg h, if_neg (by omega)]
theorem pLive_shift (a m : ByteArray) (v : Nat) : pLive (a ++ m) (a.size + v) ↔ pLive m v := by
  unfold pLive
  rw [ext_shift, size_app]
  constructor
  · rintro ⟨h, h'⟩; exact ⟨by omega, h'⟩
  · rintro ⟨h, h'⟩; exact ⟨by omega, h'⟩
theorem pSt_shift (l : List Rec) (m : ByteArray) (hok : ∀ r ∈ l, rOk r) : ∀ j, pSt (bCat l ++ m) (l.length + j) = (l ++ (pSt m j).1, (bCat l).size + (pSt m j).2) := by
  intro j
  induction j with
  | zero =>
    rw [Nat.add_zero, pSt_built l m hok]
    simp [pSt]
  | succ j ih =>
    show pStep (bCat l ++ m) (pSt (bCat l ++ m) (l.length + j)) = (l ++ (pStep m (pSt m j)).1, _ + (pStep m (pSt m j)).2)
    rw [ih]
    unfold pStep
    simp only
    rw [ext_shift, size_app]
    by_cases h : (pSt m j).2 < m.size
    · rw [if_pos h, if_pos (by omega)]
      split
      · simp only [List.append_assoc, Nat.add_assoc]
      · rfl
    · rw [if_neg h, if_neg (by omega)]
theorem full_part {x y : Rec} (hx : rOk x) (hy : rOk y) {rest : ByteArray} (h : fFull y = fFull x ++ rest) : x = y := by
  have h1 := fGet_full hx.1 hx.2 rest
  have h2 := fGet_full hy.1 hy.2 ⟨#[]⟩
  have h3 : fFull y ++ ⟨#[]⟩ = fFull y := by apply bl_inj; rw [bl_app]; exact List.append_nil _
  rw [h3, h, h1] at h2
  injection h2
/-- The bytes of no record begin another one's. -/
theorem full_apart {x y : Rec} (hx : rOk x) (hy : rOk y) {k : Nat} (hk : k = min (fFull x).size (fFull y).size) : (fFull x).extract 0 k = (fFull y).extract 0 k ↔ x = y := by
  constructor
  · intro h
    have cut : ∀ (a : ByteArray) (n : Nat), a = a.extract 0 n ++ a.extract n a.size := by
      intro a n
      apply bl_inj
      rw [bl_app, bl_ext, bl_ext, List.drop_zero, Nat.sub_zero, List.take_of_length_le (l := (bl a).drop n) (by rw [List.length_drop, ← size_bl]; exact Nat.le_refl _), List.take_append_drop]
    have whole : ∀ (a : ByteArray), a.extract 0 a.size = a := by
      intro a
      apply bl_inj
      rw [bl_ext, List.drop_zero, Nat.sub_zero, List.take_of_length_le (by rw [← size_bl]; exact Nat.le_refl _)]
    by_cases hle : (fFull x).size ≤ (fFull y).size
    · rw [Nat.min_eq_left hle] at hk
      subst hk
      rw [whole] at h
      exact full_part hx hy (rest := (fFull y).extract (fFull x).size (fFull y).size) ((cut (fFull y) (fFull x).size).trans (by rw [← h]))
    · rw [Nat.min_eq_right (by omega)] at hk
      subst hk
      rw [whole] at h
      exact (full_part hy hx (rest := (fFull x).extract (fFull y).size (fFull x).size) ((cut (fFull x) (fFull y).size).trans (by rw [h]))).symm
  · rintro rfl; rfl
end Go.Proofs.Yteifpdpppndipaa
