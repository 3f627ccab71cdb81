
/- In whatever order numbers come, walked. No condition. -/
import Derived.Test.YtcgonoepndlofaaLawHistB
namespace Go.Proofs.Ytcgonoepndlofaa
set_option maxRecDepth 100000
set_option linter.unusedSimpArgs false
open Go.RowKit
set_option linter.unusedVariables false

/-- Two Hists side by side, and a row of whole numbers. -/
def SH2 (w0 w : World) (g g' : Nat) (v : Value) (bs : List (Int × Nat)) (v' : Value) (bs' : List (Int × Nat)) (lv : Value) (l : List Int) : Prop :=
  SH w0 w g v bs lv l ∧ g ≠ g' ∧ (∀ k, v.ownBlock = some k → v'.ownBlock ≠ some k) ∧ SH w0 w g' v' bs' lv l
section
variable {w0 w : World} {g g' : Nat} {v v' : Value} {bs bs' : List (Int × Nat)} {lv : Value} {l : List Int}
theorem SH2.swap (h : SH2 w0 w g g' v bs v' bs' lv l) : SH2 w0 w g' g v' bs' v bs lv l := ⟨h.2.2.2, fun e => h.2.1 e.symm, fun k hk e => h.2.2.1 k e hk, h.1⟩
theorem SH.modfar {w' : World} {S : Nat → Prop} (h : SH w0 w g v bs lv l) (hb : Below w0.heap.size w0 w') (hm : Mod S w w') (h1 : ¬ S g) (h2 : ∀ k, v.ownBlock = some k → ¬ S k) (h3 : ∀ k, lv.ownBlock = some k → ¬ S k) : SH w0 w' g v bs lv l := by
  obtain ⟨a1, a2, ⟨cs, a3⟩, a4⟩ := h
  exact ⟨hb, a2, ⟨cs, a3.mod hm h1 h2⟩, own_mod a4 hm h3⟩
theorem SH.sep (h : SH w0 w g v bs lv l) : (∀ k, v.ownBlock = some k → k ≠ g ∧ lv.ownBlock ≠ some k) ∧ lv.ownBlock ≠ some g := by
  obtain ⟨a1, a2, ⟨cs, a3⟩, a4⟩ := h
  exact ⟨fun k hk => ⟨fun e => a3.ne (by rw [hk, e]), fun e => own_own_ne a4 a3.2.2.2.1 (by decide) k e hk⟩, own_ne' a4 a3.1 (by decide)⟩
theorem SH2.add (h : SH2 w0 w g g' v bs v' bs' lv l) (n : Int) (hb : totB bs < 10000) :
    Calls Try.prog 13 #[.pointer (some ⟨g, 0, none⟩), .int .i64 n] w fun e w' => e = .returned (.tuple #[]) ∧ ∃ u, SH2 w0 w' g g' u (addB n bs) v' bs' lv l := by
  obtain ⟨h1, h2, h3, h4⟩ := h
  have s1 := h1.sep
  have s4 := h4.sep
  have hg' : g' < w.heap.size := h4.2.2.1.choose_spec.1.lt
  have hv' : ∀ k, v'.ownBlock = some k → k < w.heap.size := fun k hk => own_lt' h4.2.2.1.choose_spec.2.2.2.1 k hk
  have hsep : ∀ k, v.ownBlock = some k → k ≠ g' := fun k hk e => by
    subst e
    obtain ⟨_, _, ⟨cs, a3⟩, _⟩ := h4
    obtain ⟨_, _, ⟨cs1, b3⟩, _⟩ := h1
    exact own_ne' b3.2.2.2.1 a3.1 (by decide) hk
  have hsep' : ∀ k, v'.ownBlock = some k → k ≠ g := fun k hk e => by
    subst e
    obtain ⟨_, _, ⟨cs, a3⟩, _⟩ := h4
    obtain ⟨_, _, ⟨cs1, b3⟩, _⟩ := h1
    exact own_ne' a3.2.2.2.1 b3.1 (by decide) hk
  have hh := h1
  obtain ⟨a1, a2, ⟨cs0, a3⟩, a4⟩ := h1
  refine (a3.add n hb).mono ?_
  rintro e w' ⟨rfl, u, hi, hm, hu⟩
  have hS := hh.step hi hm
  refine ⟨rfl, u, hS, h2, fun k hk e => ?_, h4.modfar hS.1 hm ?_ ?_ ?_⟩
  · rcases hu with h | ⟨b, h, hle⟩
    · exact h3 k (by rw [← h]; exact hk) e
    · have := hv' k e; rw [hk] at h; injection h with h; omega
  · rintro (h | h)
    · exact h2 h.symm
    · exact hsep _ h rfl
  · rintro k hk (h | h)
    · exact hsep' k hk h
    · exact h3 k h hk
  · rintro k hk (h | h)
    · exact s1.2 (by rw [← h]; exact hk)
    · exact (s1.1 k h).2 hk
theorem SH2.below {w' : World} (h : SH2 w0 w g g' v bs v' bs' lv l) (hb : Below w.heap.size w w') : SH2 w0 w' g g' v bs v' bs' lv l := ⟨h.1.below hb, h.2.1, h.2.2.1, h.2.2.2.below hb⟩
theorem SH2.rank (h : SH2 w0 w g g' v bs v' bs' lv l) (k : Int) (hk : I64 k) :
    Calls Try.prog 14 #[.pointer (some ⟨g, 0, none⟩), .int .i64 k] w fun e w' => e = .returned (.tuple #[.int .i64 (rkR bs k).1, .bool (rkR bs k).2]) ∧ SH2 w0 w' g g' v bs v' bs' lv l := by
  have hh := h
  obtain ⟨⟨h1, h2, ⟨cs0, h3⟩, h4⟩, _⟩ := h
  exact (h3.rank k hk).mono fun e w' ⟨he, hb⟩ => ⟨he, hh.below hb⟩
theorem SH2.new_ {w0 w : World} (hb : Below w0.heap.size w0 w) : SH2 w0 ((w.alloc (.cells #[.slice none 0 0, .int .i64 0] 26)).alloc (.cells #[.slice none 0 0, .int .i64 0] 26)) w.heap.size (w.heap.size + 1) (.slice none 0 0) [] (.slice none 0 0) [] (.slice none 0 0) [] := by
  have h1 := SH.new_ hb
  have h2 := SH.new_ (bel_alloc hb (.cells #[.slice none 0 0, .int .i64 0] 26))
  rw [show (w.alloc (.cells #[.slice none 0 0, .int .i64 0] 26)).heap.size = w.heap.size + 1 by simp] at h2
  exact ⟨h1.below (bel_alloc (bel_refl _) _), by omega, fun k hk => by simp [Value.ownBlock] at hk, h2⟩
theorem SH2.setl {lv' : Value} {l' : List Int} {B : Nat} (h : SH2 w0 w g g' v bs v' bs' lv l) (hB : w0.heap.size ≤ B) (ho : w.ownsRow B 3 1 lv' l'.length (l'.map (.int .i64))) : SH2 w0 w g g' v bs v' bs' lv' l' :=
  ⟨h.1.setl hB ho, h.2.1, h.2.2.1, h.2.2.2.setl hB ho⟩
end
theorem sorted_unique {l : List Int} {bs bs' : List (Int × Nat)} (h : HistOf bs l) (h' : HistOf bs' l) (k : Int) : rkR bs k = rkR bs' k := by
  by_cases hk : k < 1
  · unfold rkR; rw [if_pos hk, if_pos hk]
  · rw [rk_least h k (by omega), rk_least h' k (by omega)]
/-- The k-th number: it stands in the row, ranks rise. -/
theorem rk_mem {l : List Int} {bs : List (Int × Nat)} (h : HistOf bs l) {k : Int} (h1 : 1 ≤ k) (h2 : k ≤ (l.length : Int)) : (rkR bs k).2 = true ∧ (rkR bs k).1 ∈ l ∧ k ≤ (belowL l (rkR bs k).1 : Int) ∧ ∀ x ∈ l, k ≤ (belowL l x : Int) → (rkR bs k).1 ≤ x := by
  have hi := lst_is h k
  rw [decide_eq_true ⟨h1, h2⟩] at hi
  refine ⟨hi, ?_⟩
  rw [rk_least h k h1] at hi ⊢
  obtain ⟨s1, s2⟩ := lst_spec (leastP l k) l
  obtain ⟨t1, t2, t3⟩ := s2 hi
  exact ⟨t1, of_decide_eq_true (show decide (k ≤ (belowL l (lstOf (leastP l k) l).1 : Int)) = true from t2), fun x hx hb => t3 x hx (show decide (k ≤ (belowL l x : Int)) = true from decide_eq_true hb)⟩

/-! ### a row, sorted -/
def Sorted (s : List Int) : Prop := ∀ (i j : Nat) (a b : Int), i ≤ j → s[i]? = some a → s[j]? = some b → a ≤ b
theorem belowL_split (s : List Int) (i : Nat) (x : Int) : belowL s x = belowL (s.take i) x + belowL (s.drop i) x := by
  unfold belowL; rw [← List.countP_append, List.take_append_drop]
theorem belowL_all {s : List Int} {x : Int} (h : ∀ y ∈ s, y ≤ x) : belowL s x = s.length := by
  unfold belowL; rw [List.countP_eq_length]; intro y hy; exact decide_eq_true (h y hy)
theorem belowL_no {s : List Int} {x : Int} (h : ∀ y ∈ s, x < y) : belowL s x = 0 := by
  unfold belowL; rw [List.countP_eq_zero]; intro y hy; have := h y hy; simp; omega
theorem rk_sorted {l s : List Int} {bs : List (Int × Nat)} (h : HistOf bs l) (hp : s.Perm l) (hs : Sorted s) {i : Nat} {a : Int} (ha : s[i]? = some a) : rkR bs ((i : Int) + 1) = (a, true) := by
  have hi := (List.getElem?_eq_some_iff.1 ha).1
  have hb : ∀ x, belowL l x = belowL s x := fun x => (hp.countP_eq _).symm
  obtain ⟨t1, t2, t3, t4⟩ := rk_mem h (k := (i : Int) + 1) (by omega) (by rw [← hp.length_eq]; omega)
  rw [show rkR bs ((i : Int) + 1) = ((rkR bs ((i : Int) + 1)).1, (rkR bs ((i : Int) + 1)).2) from rfl, t1]
  congr 1
  have hge : i + 1 ≤ belowL s a := by
    rw [belowL_split s (i + 1) a, belowL_all (s := s.take (i + 1)) (fun y hy => ?_)]
    · rw [List.length_take]; omega
    · obtain ⟨j, hj⟩ := List.mem_iff_getElem?.1 hy
      rw [List.getElem?_take] at hj
      split at hj
      · exact hs j i y a (by omega) hj ha
      · cases hj
  have h1 := t4 a (hp.mem_iff.1 (List.mem_of_getElem? ha)) (by rw [hb]; omega)
  apply Classical.byContradiction
  intro hne
  have hlt : (rkR bs ((i : Int) + 1)).1 < a := by omega
  rw [hb, belowL_split s i, belowL_no (s := s.drop i) (fun y hy => ?_)] at t3
  · have := belowL_le (s.take i) (rkR bs ((i : Int) + 1)).1
    rw [List.length_take] at this
    omega
  · obtain ⟨j, hj⟩ := List.mem_iff_getElem?.1 hy
    rw [List.getElem?_drop] at hj
    have := hs i (i + j) a y (by omega) ha hj
    omega
theorem drop_erase {s : List Int} {i : Nat} {a : Int} (ha : s[i]? = some a) : (s.drop i).erase a = s.drop (i + 1) := by
  have hi := (List.getElem?_eq_some_iff.1 ha)
  obtain ⟨hl, e⟩ := hi
  rw [List.drop_eq_getElem_cons hl, e, List.erase_cons_head]
theorem sort_ex (l : List Int) : ∃ s : List Int, s.Perm l ∧ Sorted s := by
  refine ⟨l.mergeSort (fun a b => decide (a ≤ b)), List.mergeSort_perm _ _, ?_⟩
  have h := List.pairwise_mergeSort (le := fun a b : Int => decide (a ≤ b)) (fun a b c h1 h2 => by simp at *; omega) (fun a b => by simp; omega) l
  intro i j a b hij ha hb
  rcases Nat.lt_or_ge i j with hlt | hge
  · rw [List.pairwise_iff_getElem] at h
    obtain ⟨hi, ea⟩ := List.getElem?_eq_some_iff.1 ha
    obtain ⟨hj, eb⟩ := List.getElem?_eq_some_iff.1 hb
    have := h i j hi hj hlt
    rw [ea, eb] at this
    simpa using this
  · have : i = j := by omega
    subst this; rw [ha] at hb; injection hb with hb; omega
theorem rev_take {l : List Int} {k : Nat} {x : Int} (hx : l[l.length - 1 - k]? = some x) (hk : k < l.length) : l.reverse.take (k + 1) = l.reverse.take k ++ [x] := by
  refine take_snoc' ?_
  rw [List.getElem?_reverse (by omega)]; exact hx
theorem totB_len {bs : List (Int × Nat)} {l : List Int} (h : HistOf bs l) : totB bs = l.length := h.tot
set_option maxHeartbeats 4000000 in
theorem histOrder (A : Option Addr) (c : Nat) (l : List Int) (w : World) (hr : Rd w A (l.map (.int .i64))) (hl : ∀ x ∈ l, (Lit.int .i64 x).wf = true) (hn : l.length ≤ maxLen) :
    Calls Try.prog 3 #[.slice A l.length c] w fun e w' => e = .returned (.bool true) ∧ Below w.heap.size w w' := by
  have hn' : l.length ≤ 9223372036854775807 := hn
  have HR := hid' hr
  clear hr hn hl
  go_enter Try.func3, Try.ntmps3
  go_wp2_with fail
  refine (law08_speaks w).mono ?_
  rintro e w1 ⟨rfl, hB⟩
  by_cases h2 : 100 < l.length
  · go_wp2
    go_ret
    exact ⟨rfl, hB⟩
  have HR1 := hid' (HR.out.below hB)
  have HB := hid' hB
  have HS := hid' (SH2.new_ (bel_refl w1))
  clear HR hB
  go_wp2
  go_loopw [22] (fun v22 wr => ∃ (k : Nat) (v : Value) (bs : List (Int × Nat)) (v' : Value) (bs' : List (Int × Nat)), k ≤ l.length ∧ v22 = .int .i64 k ∧ SH2 w1 wr w1.heap.size (w1.heap.size + 1) v bs v' bs' (.slice none 0 0) [] ∧ Hid (HistOf bs (l.take k) ∧ HistOf bs' (l.reverse.take k))) (fun v22 _ => l.length - (intOf v22).toNat)
  case atStart => exact ⟨0, _, _, _, _, by omega, rfl, HS.out, by exact ⟨HistOf.nil, HistOf.nil⟩⟩
  case round =>
    obtain ⟨k, v, bs, v', bs', hk, rfl, hS, HQ⟩ := hrel
    by_cases hlt : k < l.length
    · obtain ⟨ad, x, rfl, hx, hcx⟩ := Rd.at_ (HR1.out.below hS.1.bel) hlt
      obtain ⟨j, hj⟩ : ∃ j, j = l.length - 1 - k := ⟨_, rfl⟩
      have hjl : j < l.length := by omega
      obtain ⟨ad2, y, e2, hy, hcy⟩ := Rd.at_ (HR1.out.below hS.1.bel) hjl
      injection e2 with e2
      subst e2
      have hb1 := HQ.out.1.tot
      have hb2 := HQ.out.2.tot
      rw [List.length_take] at hb1 hb2
      rw [List.length_reverse] at hb2
      have HQ2 := hid' (show HistOf (addB x bs) (l.take (k + 1)) ∧ HistOf (addB y bs') (l.reverse.take (k + 1)) from ⟨by rw [take_snoc' hx]; exact HQ.out.1.add x, by rw [rev_take (by rw [← hj]; exact hy) hlt]; exact HQ.out.2.add y⟩)
      have z1 : ((l.length : Int) - 1) - (k : Int) = (j : Int) := by omega
      have HS1 := hid' hS
      have HR2 := hid' (HR1.out)
      have HY := hid' (And.intro hy hjl)
      have hjI : (j : Int) < (l.length : Int) := by omega
      clear hx hy hj hS hcy HQ
      go_wp2_with fail
      refine (HS1.out.add x (by omega)).mono ?_
      rintro e w2 ⟨rfl, u, hS2⟩
      obtain ⟨ad3, y', e3, hy', hcy⟩ := Rd.at_ (HR2.out.below hS2.1.bel) HY.out.2
      injection e3 with e3
      subst e3
      rw [HY.out.1] at hy'
      injection hy' with hy'
      subst hy'
      have HS2 := hid' hS2
      clear hS2
      go_wp2_with (go_at_call 13; refine (HS2.out.swap.add y (by omega)).mono ?_; rintro e w3 ⟨rfl, u2, hS3⟩)
      go_roundw
      case rel => exact ⟨k + 1, u, _, u2, _, by omega, by go_num, hS3.swap, HQ2.out⟩
      case measure => first | (simp [intOf]; done) | (simp [intOf]; omega)
    · rw [List.take_of_length_le (by omega), List.take_of_length_le (by simp; omega)] at HQ
      obtain ⟨s, hp, hso⟩ := sort_ex l
      have HQ2 := hid' (show HistOf bs' l from HQ.out.2.perm (List.reverse_perm l))
      have HQ1 := hid' HQ.out.1
      have HSO := hid' (And.intro hp hso)
      have hql : l.length ≤ 100000 := by omega
      have hinfo : (Try.prog.info? 3).map (fun i => (i.zero, i.size, i.bytes)) = some (some (.int .i64 0), 1, 8) := by kernel_rfl
      have HS1 := hid' hS
      have HRR := hid' (HR1.out.below hS.1.bel)
      clear HQ hS hp hso
      go_wp2_with (at_builtin; refine wpList_append_ex2 rfl _ _ 22 22 rfl (.slice (some ⟨wr.heap.size, 0, none⟩) 0 0) (.slice A l.length c) rfl rfl _ (copy_row wr 22 _ 3 Try.underlying22 hinfo A c l HRR.out hql _ _ (Nat.le_refl _) (own_lit0 wr _ _ _ (Nat.le_refl _)) (bel_alloc (bel_refl _) _)) ?_; intro vl w2 hw2)
      have hS2 : SH2 w1 w2 w1.heap.size (w1.heap.size + 1) v bs v' bs' vl l := (HS1.out.below hw2.out.2.1).setl HS1.out.1.bel.size (by have := hw2.out.1; rw [Nat.zero_add, List.nil_append] at this; exact this)
      have HS2 := hid' hS2
      clear hS2 hw2
      go_loopw [6, 7, 45] (fun v6 v7 v45 wr2 => ∃ (i : Nat) (q : List Int) (la : Int), v45 = .int .i64 i ∧ v7 = .int .i64 la ∧ i ≤ l.length ∧ SH2 w1 wr2 w1.heap.size (w1.heap.size + 1) v bs v' bs' v6 q ∧ Hid (q.Perm (s.drop i) ∧ (0 < i → s[i - 1]? = some la))) (fun _ _ v45 _ => l.length - (intOf v45).toNat)
      case atStart => exact ⟨0, l, 0, rfl, rfl, by omega, HS2.out, by exact ⟨HSO.out.1.symm, fun h => by omega⟩⟩
      case round =>
        obtain ⟨i, q, la, rfl, rfl, hi, hS3, HI⟩ := hrel
        have hsl := HSO.out.1.length_eq
        by_cases hlt2 : i < l.length
        · obtain ⟨a, ha⟩ : ∃ a, s[i]? = some a := ⟨_, List.getElem?_eq_getElem (by omega)⟩
          have HK1 := hid' (rk_sorted HQ1.out HSO.out.1 HSO.out.2 ha)
          have HK2 := hid' (rk_sorted HQ2.out HSO.out.1 HSO.out.2 ha)
          have hql2 : q.length ≤ 100000 := by rw [HI.out.1.length_eq, List.length_drop]; omega
          have hmem : a ∈ q := HI.out.1.mem_iff.2 (by rw [List.drop_eq_getElem_cons (by omega)]; rw [List.getElem?_eq_getElem (by omega)] at ha; injection ha with ha; rw [ha]; exact List.mem_cons_self)
          have HE := hid' (show (q.erase a).Perm (s.drop (i + 1)) by rw [← drop_erase ha]; exact HI.out.1.erase a)
          have HM := hid' (decide_eq_true hmem)
          have HA := hid' ha
          have HLA := hid' (fun h : 0 < i => HSO.out.2 (i - 1) i la a (by omega) (HI.out.2 h) ha)
          obtain ⟨A6, c6, rfl, hc6, hm6, hr6⟩ := hS3.1.rd
          have HW := hid' (fun w hr => ref08_Without A6 c6 q a w hr hql2 hc6)
          have HMM := hid' hmem
          have HS3 := hid' hS3
          clear ha hmem hS3 hr6 HI
          have hcond : (0 : Int) < (i : Int) → ¬ a < la := fun h => by have := HLA.out (by omega); omega
          by_cases hi0 : 0 < i
          · have hla := hcond (by omega)
            have hi0' : (0 : Int) < (i : Int) := by omega
            clear hcond
            go_wp2_with fail
            refine (HS3.out.rank _ (by unfold I64; omega)).mono ?_
            rintro e w3 ⟨rfl, hS4⟩
            rw [HK1.out]
            go_wp2_with fail
            refine (hS4.swap.rank _ (by unfold I64; omega)).mono ?_
            rintro e w4 ⟨rfl, hS5⟩
            rw [HK2.out]
            have hr7 := hS5.1.rd
            obtain ⟨A7, c7, e7, -, -, hr7⟩ := hr7
            injection e7 with e7 _ e8
            subst e7 e8
            have HS5 := hid' hS5
            clear hS4 hS5
            go_wp2_with fail
            refine (HW.out _ hr7).mono ?_
            rintro e w5 ⟨v5, rfl, hB5, hc5⟩
            rw [HM.out]
            have hS6 := (HS5.out.swap.below hB5).setl HS5.out.1.bel.size (hc5.resolve_right (fun h => h.1 HMM.out)).2
            clear hc5
            go_wp2
            all_goals first | (exfalso; simp at *; omega) | skip
            go_roundw
            case rel => exact ⟨i + 1, q.erase a, a, by go_num, rfl, by omega, hS6, by exact ⟨HE.out, fun _ => HA.out⟩⟩
            case measure => first | (simp [intOf]; done) | (simp [intOf]; omega)
          · have hi0' : i = 0 := by omega
            subst hi0'
            rw [show ((0 : Nat) : Int) + 1 = 1 by omega] at HK1 HK2
            go_wp2_with fail
            refine (HS3.out.rank _ (by unfold I64; omega)).mono ?_
            rintro e w3 ⟨rfl, hS4⟩
            rw [HK1.out]
            go_wp2_with fail
            refine (hS4.swap.rank _ (by unfold I64; omega)).mono ?_
            rintro e w4 ⟨rfl, hS5⟩
            rw [HK2.out]
            have hr7 := hS5.1.rd
            obtain ⟨A7, c7, e7, -, -, hr7⟩ := hr7
            injection e7 with e7 _ e8
            subst e7 e8
            have HS5 := hid' hS5
            clear hS4 hS5
            go_wp2_with fail
            refine (HW.out _ hr7).mono ?_
            rintro e w5 ⟨v5, rfl, hB5, hc5⟩
            rw [HM.out]
            have hS6 := (HS5.out.swap.below hB5).setl HS5.out.1.bel.size (hc5.resolve_right (fun h => h.1 HMM.out)).2
            clear hc5
            go_wp2
            all_goals first | (exfalso; simp at *; omega) | skip
            go_roundw
            case rel => exact ⟨1, q.erase a, a, rfl, rfl, by omega, hS6, by exact ⟨HE.out, fun _ => HA.out⟩⟩
            case measure => first | (simp [intOf]; done) | (simp [intOf]; omega)
        · have hq0 : q = [] := by
            have := HI.out.1
            rw [List.drop_eq_nil_of_le (by omega)] at this
            exact this.eq_nil
          subst hq0
          obtain ⟨A6, c6, rfl, hc6, hm6, hr6⟩ := hS3.1.rd
          have HS3 := hid' hS3
          clear hS3 hr6
          go_wp2
          go_ret
          exact ⟨rfl, bel_then HB.out HS3.out.1.bel⟩
end Go.Proofs.Ytcgonoepndlofaa
