/- Several texts as one. No condition beyond each one's own. -/
import Derived.Test.YtockkjhciojgbaaGreatDoorPackA
import Derived.Laws.CopyOwn
import Derived.Lib.AppendZerosOnto
import Derived.ArgAppend
import Derived.Laws.Externs
import Derived.Lib.Overlaps
import Derived.Test.YtockkjhciojgbaaGreatDoorApp
import Derived.Deep.RegionLaw
import Derived.Test.YtockkjhciojgbaaGreatDoorCells
import Derived.BigRegion
import Derived.Deep.RegionHeld3
import Derived.Deep.OwnRows
import Derived.Deep.AppendLies
import Derived.Test.YtockkjhciojgbaaGreatDoorClamp
/- HistPure -/
/- Numbers by how often they are there: what adding, removing and ranking come to, against a row of numbers. No condition. -/
namespace Go.Proofs.YtockkjhciojgbaaGreatDoor
set_option maxRecDepth 100000
set_option linter.unusedSimpArgs false
set_option linter.unusedVariables false

/-! ### bins: a number, and how often it is there -/
def sumB (p : Int → Bool) : List (Int × Nat) → Nat
  | [] => 0
  | b :: bs => (if p b.1 = true then b.2 else 0) + sumB p bs
def cntB (bs : List (Int × Nat)) (n : Int) : Nat := sumB (fun x => decide (x = n)) bs
def belowB (bs : List (Int × Nat)) (n : Int) : Nat := sumB (fun x => decide (x ≤ n)) bs
def totB (bs : List (Int × Nat)) : Nat := sumB (fun _ => true) bs
def posB (n : Int) : List (Int × Nat) → Nat
  | [] => 0
  | b :: bs => if b.1 < n then posB n bs + 1 else 0
def addB (n : Int) : List (Int × Nat) → List (Int × Nat)
  | [] => [(n, 1)]
  | b :: bs => if b.1 < n then b :: addB n bs else if b.1 = n then (b.1, b.2 + 1) :: bs else (n, 1) :: b :: bs
def remB (n : Int) : List (Int × Nat) → List (Int × Nat)
  | [] => []
  | b :: bs => if b.1 < n then b :: remB n bs else if b.1 = n then (if b.2 = 1 then bs else (b.1, b.2 - 1) :: bs) else b :: bs
def isB (n : Int) : List (Int × Nat) → Bool
  | [] => false
  | b :: bs => if b.1 < n then isB n bs else decide (b.1 = n)
def rankB : List (Int × Nat) → Nat → Option Int
  | [], _ => none
  | b :: bs, k => if k ≤ b.2 then some b.1 else rankB bs (k - b.2)
def SortB (bs : List (Int × Nat)) : Prop := List.Pairwise (fun a b : Int × Nat => a.1 < b.1) bs ∧ ∀ b ∈ bs, 0 < b.2
def HistOf (bs : List (Int × Nat)) (l : List Int) : Prop := SortB bs ∧ ∀ n, cntB bs n = l.count n

theorem SortB.tail {b : Int × Nat} {bs : List (Int × Nat)} (h : SortB (b :: bs)) : SortB bs := ⟨(List.pairwise_cons.1 h.1).2, fun x hx => h.2 x (List.mem_cons_of_mem _ hx)⟩
theorem SortB.head {b : Int × Nat} {bs : List (Int × Nat)} (h : SortB (b :: bs)) : ∀ x ∈ bs, b.1 < x.1 := (List.pairwise_cons.1 h.1).1
theorem sumB_none {p : Int → Bool} : ∀ {bs : List (Int × Nat)}, (∀ b ∈ bs, p b.1 = false) → sumB p bs = 0
  | [], _ => rfl
  | b :: bs, h => by
    rw [sumB, h b List.mem_cons_self, sumB_none (fun x hx => h x (List.mem_cons_of_mem _ hx))]; rfl
theorem cntB_cons (b : Int × Nat) (bs : List (Int × Nat)) (n : Int) : cntB (b :: bs) n = (if b.1 = n then b.2 else 0) + cntB bs n := by
  unfold cntB; rw [sumB]; by_cases h : b.1 = n <;> simp [h]
theorem cntB_far {bs : List (Int × Nat)} {n : Int} (h : ∀ x ∈ bs, n < x.1) : cntB bs n = 0 :=
  sumB_none (fun b hb => by have := h b hb; simp; omega)
theorem isB_cnt : ∀ {bs : List (Int × Nat)} (n : Int), SortB bs → isB n bs = decide (0 < cntB bs n)
  | [], n, _ => rfl
  | b :: bs, n, h => by
    rw [isB, cntB_cons]
    by_cases h1 : b.1 < n
    · rw [if_pos h1, if_neg (by omega), Nat.zero_add, isB_cnt n h.tail]
    · rw [if_neg h1]
      by_cases h2 : b.1 = n
      · have := h.2 b List.mem_cons_self
        rw [if_pos h2, decide_eq_true h2]; symm; rw [decide_eq_true_eq]; omega
      · rw [if_neg h2, decide_eq_false h2, cntB_far (fun x hx => by have := h.head x hx; omega)]; rfl
theorem mem_addB {n : Int} : ∀ {bs : List (Int × Nat)} {x : Int × Nat}, x ∈ addB n bs → x.1 = n ∨ x ∈ bs
  | [], x, h => by rw [addB, List.mem_singleton] at h; exact .inl (by rw [h])
  | b :: bs, x, h => by
    rw [addB] at h
    split at h
    · rcases List.mem_cons.1 h with h | h
      · exact .inr (by rw [h]; exact List.mem_cons_self)
      · rcases mem_addB h with h | h
        · exact .inl h
        · exact .inr (List.mem_cons_of_mem _ h)
    · split at h
      · rename_i e
        rcases List.mem_cons.1 h with h | h
        · exact .inl (by rw [h]; exact e)
        · exact .inr (List.mem_cons_of_mem _ h)
      · rcases List.mem_cons.1 h with h | h
        · exact .inl (by rw [h])
        · exact .inr h
theorem addB_sort (n : Int) : ∀ {bs : List (Int × Nat)}, SortB bs → SortB (addB n bs)
  | [], _ => ⟨by simp [addB], fun b hb => by rw [addB, List.mem_singleton] at hb; subst hb; exact Nat.one_pos⟩
  | b :: bs, h => by
    have hb := h.2 b List.mem_cons_self
    rw [addB]
    split
    · have h2 := addB_sort n h.tail
      refine ⟨List.pairwise_cons.2 ⟨fun x hx => ?_, h2.1⟩, fun x hx => ?_⟩
      · rcases mem_addB hx with hx | hx
        · rw [hx]; assumption
        · exact h.head x hx
      · rcases List.mem_cons.1 hx with hx | hx
        · rw [hx]; exact hb
        · exact h2.2 x hx
    · split
      · refine ⟨List.pairwise_cons.2 ⟨fun x hx => h.head x hx, h.tail.1⟩, fun x hx => ?_⟩
        rcases List.mem_cons.1 hx with hx | hx
        · rw [hx]; exact Nat.succ_pos _
        · exact h.tail.2 x hx
      · refine ⟨List.pairwise_cons.2 ⟨fun x hx => ?_, h.1⟩, fun x hx => ?_⟩
        · show n < x.1
          rcases List.mem_cons.1 hx with hx | hx
          · rw [hx]; omega
          · have := h.head x hx; omega
        · rcases List.mem_cons.1 hx with hx | hx
          · rw [hx]; exact Nat.one_pos
          · exact h.2 x hx
theorem addB_cnt (n m : Int) : ∀ {bs : List (Int × Nat)}, cntB (addB n bs) m = cntB bs m + if n = m then 1 else 0
  | [] => by rw [addB, cntB_cons]; simp [cntB, sumB]
  | b :: bs => by
    rw [addB]
    split
    · rw [cntB_cons, addB_cnt n m, cntB_cons]; omega
    · split
      · rename_i e
        rw [cntB_cons, cntB_cons]
        by_cases hm : n = m
        · rw [if_pos hm, if_pos (by show b.1 = m; omega), if_pos (by omega)]; show b.2 + 1 + _ = _; omega
        · rw [if_neg hm, if_neg (by show ¬ b.1 = m; omega), if_neg (by omega)]; omega
      · rw [cntB_cons, cntB_cons]; show (if n = m then 1 else 0) + _ = _; omega
theorem mem_remB {n : Int} : ∀ {bs : List (Int × Nat)} {x : Int × Nat}, x ∈ remB n bs → ∃ y ∈ bs, x.1 = y.1
  | [], x, h => by rw [remB] at h; cases h
  | b :: bs, x, h => by
    rw [remB] at h
    split at h
    · rcases List.mem_cons.1 h with h | h
      · exact ⟨b, List.mem_cons_self, by rw [h]⟩
      · obtain ⟨y, hy, e⟩ := mem_remB h
        exact ⟨y, List.mem_cons_of_mem _ hy, e⟩
    · split at h
      · split at h
        · exact ⟨x, List.mem_cons_of_mem _ h, rfl⟩
        · rcases List.mem_cons.1 h with h | h
          · exact ⟨b, List.mem_cons_self, by rw [h]⟩
          · exact ⟨x, List.mem_cons_of_mem _ h, rfl⟩
      · exact ⟨x, h, rfl⟩
theorem remB_sort (n : Int) : ∀ {bs : List (Int × Nat)}, SortB bs → SortB (remB n bs)
  | [], h => h
  | b :: bs, h => by
    have hb := h.2 b List.mem_cons_self
    rw [remB]
    split
    · have h2 := remB_sort n h.tail
      refine ⟨List.pairwise_cons.2 ⟨fun x hx => ?_, h2.1⟩, fun x hx => ?_⟩
      · obtain ⟨y, hy, e⟩ := mem_remB hx
        rw [e]; exact h.head y hy
      · rcases List.mem_cons.1 hx with hx | hx
        · rw [hx]; exact hb
        · exact h2.2 x hx
    · split
      · split
        · exact h.tail
        · refine ⟨List.pairwise_cons.2 ⟨fun x hx => h.head x hx, h.tail.1⟩, fun x hx => ?_⟩
          rcases List.mem_cons.1 hx with hx | hx
          · rw [hx]; show 0 < b.2 - 1; omega
          · exact h.tail.2 x hx
      · exact h
theorem remB_cnt (n m : Int) : ∀ {bs : List (Int × Nat)}, SortB bs → cntB (remB n bs) m = cntB bs m - if n = m then 1 else 0
  | [], _ => by simp [remB, cntB, sumB]
  | b :: bs, h => by
    have hb := h.2 b List.mem_cons_self
    rw [remB]
    split
    · rw [cntB_cons, remB_cnt n m h.tail, cntB_cons]
      by_cases hm : n = m
      · rw [if_pos hm, if_neg (by omega)]; omega
      · rw [if_neg hm]; omega
    · split
      · rename_i e
        split
        · rename_i e2
          rw [cntB_cons]
          by_cases hm : n = m
          · rw [if_pos hm, if_pos (by omega)]; omega
          · rw [if_neg hm, if_neg (by omega)]; omega
        · rw [cntB_cons, cntB_cons]
          by_cases hm : n = m
          · rw [if_pos hm, if_pos (by show b.1 = m; omega), if_pos (by omega)]; show b.2 - 1 + _ = _; omega
          · rw [if_neg hm, if_neg (by show ¬ b.1 = m; omega), if_neg (by omega)]; omega
      · rename_i h1 h2
        by_cases hm : n = m
        · have : cntB (b :: bs) m = 0 := cntB_far (fun x hx => by
            rcases List.mem_cons.1 hx with hx | hx
            · rw [hx]; omega
            · have := h.head x hx; omega)
          omega
        · rw [if_neg hm]; omega

theorem HistOf.nil : HistOf [] [] := ⟨⟨List.Pairwise.nil, fun b hb => by cases hb⟩, fun n => rfl⟩
theorem HistOf.add {bs : List (Int × Nat)} {l : List Int} (h : HistOf bs l) (n : Int) : HistOf (addB n bs) (l ++ [n]) :=
  ⟨addB_sort n h.1, fun m => by rw [addB_cnt, h.2 m, List.count_append, List.count_singleton]; by_cases e : n = m <;> simp [e]⟩
theorem HistOf.perm {bs : List (Int × Nat)} {l l' : List Int} (h : HistOf bs l) (hp : l.Perm l') : HistOf bs l' := ⟨h.1, fun n => (h.2 n).trans (hp.count_eq n)⟩
theorem HistOf.rem {bs : List (Int × Nat)} {l : List Int} (h : HistOf bs l) (n : Int) : HistOf (remB n bs) (l.erase n) :=
  ⟨remB_sort n h.1, fun m => by rw [remB_cnt n m h.1, h.2 m, List.count_erase]; by_cases e : n = m <;> simp [e]⟩
theorem HistOf.is {bs : List (Int × Nat)} {l : List Int} (h : HistOf bs l) (n : Int) : isB n bs = decide (n ∈ l) := by
  rw [isB_cnt n h.1, h.2 n]
  exact decide_eq_decide.2 List.count_pos_iff
theorem filter_split (p : Int → Bool) (a : Int) : ∀ l : List Int, l.countP p = (if p a = true then l.count a else 0) + (l.filter (fun x => decide (x ≠ a))).countP p
  | [] => by simp
  | x :: l => by
    have := filter_split p a l
    by_cases hx : x = a
    · subst hx
      rw [List.filter_cons_of_neg (by simp), List.countP_cons, this]
      by_cases hp : p x = true
      · simp [hp]; omega
      · simp [hp]
    · rw [List.filter_cons_of_pos (by simp [hx]), List.countP_cons, List.countP_cons, this, List.count_cons_of_ne hx]; omega
theorem HistOf.sum (p : Int → Bool) : ∀ {bs : List (Int × Nat)} {l : List Int}, HistOf bs l → sumB p bs = l.countP p
  | [], l, h => by
    have : l = [] := List.eq_nil_iff_forall_not_mem.2 (fun x hx => by
      have := h.2 x
      have h2 := List.count_pos_iff.2 hx
      rw [← this] at h2; simp [cntB, sumB] at h2)
    subst this; rfl
  | b :: bs, l, h => by
    have hc := h.2 b.1
    rw [cntB_cons, if_pos rfl, cntB_far h.1.head, Nat.add_zero] at hc
    have ht : HistOf bs (l.filter (fun x => decide (x ≠ b.1))) := ⟨h.1.tail, fun n => by
      by_cases hn : n = b.1
      · subst hn
        rw [cntB_far h.1.head]; symm
        rw [List.count_eq_zero]; simp
      · have := h.2 n
        rw [cntB_cons, if_neg (fun e => hn e.symm), Nat.zero_add] at this
        rw [this, List.count_filter (by simpa using hn)]⟩
    rw [sumB, HistOf.sum p ht, filter_split p b.1 l, hc]
def belowL (l : List Int) (n : Int) : Nat := l.countP (fun x => decide (x ≤ n))
theorem HistOf.below {bs : List (Int × Nat)} {l : List Int} (h : HistOf bs l) (n : Int) : belowB bs n = belowL l n := h.sum _
theorem HistOf.tot {bs : List (Int × Nat)} {l : List Int} (h : HistOf bs l) : totB bs = l.length := by
  unfold totB; rw [h.sum]; simp
theorem HistOf.mem {bs : List (Int × Nat)} {l : List Int} (h : HistOf bs l) {b : Int × Nat} (hb : b ∈ bs) : b.1 ∈ l := by
  have h1 := h.is b.1
  have h2 : isB b.1 bs = true := by
    rw [isB_cnt _ h.1, decide_eq_true_eq]
    clear h1
    have hs := h.1
    clear h
    induction bs with
    | nil => cases hb
    | cons a bs ih =>
      rw [cntB_cons]
      rcases List.mem_cons.1 hb with e | e
      · have := hs.2 a List.mem_cons_self
        rw [if_pos (by rw [e]), ← e]; rw [← e] at this; omega
      · have := ih e hs.tail; omega
  rw [h2] at h1
  simpa using h1.symm
theorem belowB_cons (b : Int × Nat) (bs : List (Int × Nat)) (n : Int) : belowB (b :: bs) n = (if b.1 ≤ n then b.2 else 0) + belowB bs n := by
  unfold belowB; rw [sumB]; by_cases h : b.1 ≤ n <;> simp [h]
theorem totB_cons (b : Int × Nat) (bs : List (Int × Nat)) : totB (b :: bs) = b.2 + totB bs := by unfold totB; rw [sumB]; simp
theorem rank_some : ∀ {bs : List (Int × Nat)} {k : Nat} {m : Int}, SortB bs → 1 ≤ k → rankB bs k = some m → (∃ b ∈ bs, b.1 = m) ∧ k ≤ belowB bs m ∧ ∀ b ∈ bs, b.1 < m → belowB bs b.1 < k
  | [], k, m, _, _, h => by cases h
  | b :: bs, k, m, hs, hk, h => by
    rw [rankB] at h
    split at h
    · injection h with h
      subst h
      refine ⟨⟨b, List.mem_cons_self, rfl⟩, by rw [belowB_cons, if_pos (Int.le_refl _)]; omega, fun x hx hlt => ?_⟩
      rcases List.mem_cons.1 hx with e | e
      · rw [e] at hlt; omega
      · have := hs.head x e; omega
    · obtain ⟨⟨y, hy, e⟩, h2, h3⟩ := rank_some hs.tail (by omega) h
      have hbm : b.1 < m := by have := hs.head y hy; omega
      refine ⟨⟨y, List.mem_cons_of_mem _ hy, e⟩, by rw [belowB_cons, if_pos (by omega)]; omega, fun x hx hlt => ?_⟩
      rcases List.mem_cons.1 hx with e | e
      · subst e
        rw [belowB_cons, if_pos (Int.le_refl _)]
        have : belowB bs x.1 = 0 := sumB_none (fun z hz => by have := hs.head z hz; simp; omega)
        omega
      · have h4 := h3 x e hlt
        have := hs.head x e
        rw [belowB_cons, if_pos (by omega)]; omega
theorem rank_none : ∀ {bs : List (Int × Nat)} {k : Nat}, rankB bs k = none → 1 ≤ k → totB bs < k
  | [], k, _, hk => by show 0 < k; omega
  | b :: bs, k, h, hk => by
    rw [rankB] at h
    split at h
    · cases h
    · have := rank_none h (by omega)
      rw [totB_cons]; omega

/-! ### the least number of a row that has a property -/
def lstS (P : Int → Bool) (acc : Int × Bool) (x : Int) : Int × Bool := if P x = true ∧ (acc.2 = false ∨ x < acc.1) then (x, true) else acc
def lstOf (P : Int → Bool) (l : List Int) : Int × Bool := l.foldl (lstS P) (0, false)
theorem lst_snoc (P : Int → Bool) (l : List Int) (x : Int) : lstOf P (l ++ [x]) = lstS P (lstOf P l) x := by unfold lstOf; rw [List.foldl_append]; rfl
theorem list_rev_ind {α : Type} {p : List α → Prop} (h0 : p []) (h1 : ∀ l x, p l → p (l ++ [x])) : ∀ l, p l := fun l => by
  have : ∀ n (l : List α), l.length = n → p l := by
    intro n
    induction n with
    | zero => intro l hl; rw [List.eq_nil_of_length_eq_zero hl]; exact h0
    | succ n ih =>
      intro l hl
      have hne : l ≠ [] := by intro e; subst e; cases hl
      rw [← List.dropLast_concat_getLast hne]
      exact h1 _ _ (ih _ (by rw [List.length_dropLast, hl]; rfl))
  exact this l.length l rfl
theorem lst_spec (P : Int → Bool) (l : List Int) : ((lstOf P l).2 = false → lstOf P l = (0, false) ∧ ∀ x ∈ l, P x = false) ∧ ((lstOf P l).2 = true → (lstOf P l).1 ∈ l ∧ P (lstOf P l).1 = true ∧ ∀ x ∈ l, P x = true → (lstOf P l).1 ≤ x) := by
  induction l using list_rev_ind with
  | h0 => exact ⟨fun _ => ⟨rfl, fun x hx => by cases hx⟩, fun h => by cases h⟩
  | h1 l x ih =>
    obtain ⟨i1, i2⟩ := ih
    rw [lst_snoc]
    unfold lstS
    split
    · rename_i hc
      refine ⟨fun h => (by cases h), fun _ => ⟨by simp, hc.1, fun y hy hp => ?_⟩⟩
      show x ≤ y
      rcases List.mem_append.1 hy with hy | hy
      · cases hb : (lstOf P l).2
        · have := (i1 hb).2 y hy; rw [this] at hp; cases hp
        · rcases hc.2 with e | e
          · rw [hb] at e; cases e
          · have := (i2 hb).2.2 y hy hp; omega
      · rw [List.mem_singleton] at hy; omega
    · rename_i hc
      refine ⟨fun h => ⟨(i1 h).1, fun y hy => ?_⟩, fun h => ⟨List.mem_append_left _ (i2 h).1, (i2 h).2.1, fun y hy hp => ?_⟩⟩
      · rcases List.mem_append.1 hy with hy | hy
        · exact (i1 h).2 y hy
        · rw [List.mem_singleton] at hy; subst hy
          cases hp : P y
          · rfl
          · exact absurd ⟨hp, .inl h⟩ hc
      · rcases List.mem_append.1 hy with hy | hy
        · exact (i2 h).2.2 y hy hp
        · rw [List.mem_singleton] at hy; subst hy
          apply Classical.byContradiction
          intro hlt
          exact hc ⟨hp, .inr (by omega)⟩
def rankV (o : Option Int) : Int × Bool := match o with | some m => (m, true) | none => (0, false)
theorem rank_least {bs : List (Int × Nat)} {l : List Int} (h : HistOf bs l) {k : Nat} (hk : 1 ≤ k) (P : Int → Bool) (hP : ∀ x ∈ l, P x = decide (k ≤ belowL l x)) : rankV (rankB bs k) = lstOf P l := by
  obtain ⟨s1, s2⟩ := lst_spec P l
  cases hr : rankB bs k with
  | none =>
    have h1 := rank_none hr hk
    rw [h.tot] at h1
    cases hb : (lstOf P l).2
    · exact (s1 hb).1.symm
    · exfalso
      have := (s2 hb)
      have h2 := hP _ this.1
      rw [this.2.1] at h2
      have h3 : k ≤ belowL l (lstOf P l).1 := by simpa using h2.symm
      have h4 : belowL l (lstOf P l).1 ≤ l.length := List.countP_le_length
      omega
  | some m =>
    obtain ⟨⟨b, hb, rfl⟩, h2, h3⟩ := rank_some h.1 hk hr
    rw [h.below] at h2
    have hm := h.mem hb
    have hPb : P b.1 = true := by rw [hP _ hm]; exact decide_eq_true h2
    cases hb2 : (lstOf P l).2
    · have := (s1 hb2).2 _ hm; rw [hPb] at this; cases this
    · obtain ⟨t1, t2, t3⟩ := s2 hb2
      have h5 := t3 _ hm hPb
      show (b.1, true) = lstOf P l
      rw [show lstOf P l = ((lstOf P l).1, (lstOf P l).2) from rfl, hb2]
      congr 1
      apply Classical.byContradiction
      intro hne
      have hlt : (lstOf P l).1 < b.1 := by omega
      -- the number found stands in a bin of its own
      have hin : isB (lstOf P l).1 bs = true := by rw [h.is]; exact decide_eq_true t1
      have : ∃ c ∈ bs, c.1 = (lstOf P l).1 := by
        clear h2 h3 hr s1 s2 hP t3 h5 hne hlt hPb hb2 hm
        rw [isB_cnt _ h.1, decide_eq_true_eq] at hin
        apply Classical.byContradiction
        intro hno
        have : cntB bs (lstOf P l).1 = 0 := sumB_none (fun c hc => by
          rw [decide_eq_false_iff_not]
          exact fun e => hno ⟨c, hc, e⟩)
        omega
      obtain ⟨c, hc, hce⟩ := this
      have h6 := h3 c hc (by omega)
      rw [hce, h.below] at h6
      have h7 := hP _ t1
      rw [t2] at h7
      have h8 : k ≤ belowL l (lstOf P l).1 := by simpa using h7.symm
      omega
end Go.Proofs.YtockkjhciojgbaaGreatDoor
/- SliceRow -/
/- copy, clear and append over rows of elements of several cells: what they come to, on a block that is known whole. No condition. -/
namespace Go.Proofs.YtockkjhciojgbaaGreatDoor
set_option maxRecDepth 100000
set_option linter.unusedSimpArgs false
open Go.RowKit
set_option linter.unusedVariables false

theorem setRow_blk {w : World} {g : Nat} {t : TypeId} {cur : Array Value} (h : Blk w g t cur) (cs : Array Value) : Blk (w.setRow g cs) g t cs := setRow_heap w g cur cs t (0, 0) h
theorem setRow_mod (w : World) (g : Nat) (cs : Array Value) : Mod (fun k => k = g) w (w.setRow g cs) :=
  ⟨rfl, rfl, rfl, by simp [World.setRow], fun k hk hn => setRow_other w g k cs hn⟩
theorem setCells_row (g : Nat) (t : TypeId) (fr : Nat × Nat) : ∀ (vs : List Value) (o : Nat) (cur : Array Value) (w : World), w.heap[g]? = some (.cells cur t fr) → o + vs.length ≤ cur.size →
    w.setCells g o vs = w.setRow g (splice cur.toList o vs).toArray
  | [], o, cur, w, h, hl => by
    rw [World.setCells, show (splice cur.toList o []).toArray = cur by simp [splice], setRow_self w g cur t fr h]
  | v :: r, o, cur, w, h, hl => by
    have hl' : o + (r.length + 1) ≤ cur.size := by simpa using hl
    rw [World.setCells, setCell_eq_setRow w g o cur t fr v h, setCells_row g t fr r (o + 1) (cur.setIfInBounds o v) _ (setRow_heap w g cur _ t fr h) (by simp; omega), setRow_setRow]
    congr 2
    have e := list_seg_step cur.toList o v r (by simpa using hl')
    unfold splice
    rw [Array.toList_setIfInBounds, ← List.append_assoc, e]
    simp

theorem run_copy_rowK {P : Program} (w : World) (dT sT ty elem : TypeId) (sz : Nat) (g o dLen dCap : Nat) (a : Addr) (sLen sCap : Nat) (cur : Array Value) (t : TypeId) (cs : List Value)
    (hu : P.underlying dT = some (.slice elem)) (hs : (P.info? elem).map (·.size) = some sz)
    (hg : Blk w g t cur) (hn : cs.length = min sLen dLen * sz)
    (hsrc : ∀ j v, cs[j]? = some v → w.cell? (a.add j) = some v) (hfit : o + cs.length ≤ cur.size) (h1 : ∀ v ∈ cs, v.oneCell' = true) :
    (Builtin.copy_ #[dT, sT] ty #[.slice (some ⟨g, o, none⟩) dLen dCap, .slice (some a) sLen sCap]).run P w =
      .ok (goInt (min sLen dLen : Nat)) (w.setRow g (splice cur.toList o cs).toArray) := by
  have hl := run_loadCells_list (P := P) w a cs hsrc
  have hst := run_storeCells_at P g o t cs 0 cur w hg (by simpa using hfit) h1
  cases hq : P.info? elem with
  | none => simp [hq] at hs
  | some i =>
    have hi : i.size = sz := by simpa [hq] using hs
    rw [hn] at hl
    simp [Builtin.copy_, run_underlying hu, Builtin.lenOf, Builtin.firstCells, sizeOf, typeInfo, hq, hi, Nat.min_def] at hl ⊢
    simp [hl, hst, splice]
theorem run_clear_row1 {P : Program} (w : World) (t e ty : TypeId) (z : Value) (zs : List Value) (ht : P.underlying t = some (.slice e)) (hv : ∀ w, (zeroValue e).run P w = .ok z w) (hz : z.cells = zs.toArray) (h1 : ∀ v ∈ zs, v.oneCell' = true)
    (g o c : Nat) (cur : Array Value) (T : TypeId) (hg : Blk w g T cur) (hfit : o + zs.length ≤ cur.size) :
    (Builtin.clear_ #[t] ty #[.slice (some ⟨g, o, none⟩) 1 c]).run P w = .ok (.tuple #[]) (w.setRow g (splice cur.toList o zs).toArray) := by
  have hst := run_storeCells_at P g o T zs 0 cur w hg (by simpa using hfit) h1
  have hzc : (Builtin.zeroCells z.cells 1).toList = zs := by
    rw [hz]
    simp [Builtin.zeroCells]
    apply List.ext_getElem
    · simp
    · intro i h1 h2
      simp at h1
      simp [Nat.mod_eq_of_lt h1, List.getElem?_eq_getElem h1]
  simp [Builtin.clear_, run_underlying ht, hv, hzc, hst, splice]

/-! ### a builtin whose run is known, at the walk -/
theorem wp_copy_ex {P : Program} (w : World) {o : Oper} {a : Act} {K : Act → World → Prop} {Q : Exit → Act → World → Prop} (s x : Operand) (t t' : TypeId)
    (ho : o.op = .call { callee := .builtin .copy, args := #[s, x], argTypes := #[t, t'] }) (u v v' : Value) (hs : a.eval s = u) (hx : a.eval x = v) (φ : World → Prop)
    (hr : ∃ w', (Builtin.copy_ #[t, t'] o.type #[u, v]).run P w = .ok v' w' ∧ φ w') (h : ∀ w', φ w' → K (a.put o.dst v') w') : o.wp P a w K Q := by
  obtain ⟨w', hr, hf⟩ := hr
  unfold Oper.wp execOp
  simp only [ho, resolve, invoke, builtin, Sem.run_bind, Sem.run_pure, Result.andThen_ok, List.map_toArray, List.map_cons, List.map_nil, hs, hx, hr]
  exact h w' hf
theorem wpList_copy_ex {P : Program} {w : World} {ops : Array Oper} {rest : List Oper} {o : Oper} {a : Act} {Q : Exit → Act → World → Prop} (hgd : o.guard = none) (s x : Operand) (t t' : TypeId)
    (ho : o.op = .call { callee := .builtin .copy, args := #[s, x], argTypes := #[t, t'] }) (u v v' : Value) (hs : a.eval s = u) (hx : a.eval x = v) (φ : World → Prop)
    (hr : ∃ w', (Builtin.copy_ #[t, t'] o.type #[u, v]).run P w = .ok v' w' ∧ φ w') (h : ∀ w', φ w' → wpList P ops Q rest (a.put o.dst v') w') : wpList P ops Q (o :: rest) a w :=
  wpList_plain hgd fun _ hK => wp_copy_ex w s x t t' ho u v v' hs hx φ hr fun w' hw => hK _ _ (h w' hw)
theorem step_copy_ex {P : Program} {ops : Array Oper} {o : Oper} {a : Act} {w : World} {K : Act → World → Prop} {Q : Exit → Act → World → Prop} {E : Prop} (hgd : o.guard = none) (s x : Operand) (t t' : TypeId)
    (ho : o.op = .call { callee := .builtin .copy, args := #[s, x], argTypes := #[t, t'] }) (u v v' : Value) (hs : a.eval s = u) (hx : a.eval x = v) (φ : World → Prop)
    (hr : ∃ w', (Builtin.copy_ #[t, t'] o.type #[u, v]).run P w = .ok v' w' ∧ φ w') (h : ∀ w', φ w' → K (a.put o.dst v') w') :
    if Region.wanted o (yielded ops a.tmps) = true then Oper.wp P o a w K Q else E := by
  have hw : Region.wanted o (yielded ops a.tmps) = true := by simp [Region.wanted, hgd]
  rw [if_pos hw]
  exact wp_copy_ex w s x t t' ho u v v' hs hx φ hr h
theorem wp_append_ex {P : Program} (w : World) {o : Oper} {a : Act} {K : Act → World → Prop} {Q : Exit → Act → World → Prop} (s x : Operand) (t t' : TypeId)
    (ho : o.op = .call { callee := .builtin .append, args := #[s, x], argTypes := #[t, t'] }) (u v v' : Value) (hs : a.eval s = u) (hx : a.eval x = v) (φ : World → Prop)
    (hr : ∃ w', (Builtin.append_ #[t, t'] o.type #[u, v]).run P w = .ok v' w' ∧ φ w') (h : ∀ w', φ w' → K (a.put o.dst v') w') : o.wp P a w K Q := by
  obtain ⟨w', hr, hf⟩ := hr
  unfold Oper.wp execOp
  simp only [ho, resolve, invoke, builtin, Sem.run_bind, Sem.run_pure, Result.andThen_ok, List.map_toArray, List.map_cons, List.map_nil, hs, hx, hr]
  exact h w' hf
theorem wpList_append_ex {P : Program} {w : World} {ops : Array Oper} {rest : List Oper} {o : Oper} {a : Act} {Q : Exit → Act → World → Prop} (hgd : o.guard = none) (s x : Operand) (t t' : TypeId)
    (ho : o.op = .call { callee := .builtin .append, args := #[s, x], argTypes := #[t, t'] }) (u v v' : Value) (hs : a.eval s = u) (hx : a.eval x = v) (φ : World → Prop)
    (hr : ∃ w', (Builtin.append_ #[t, t'] o.type #[u, v]).run P w = .ok v' w' ∧ φ w') (h : ∀ w', φ w' → wpList P ops Q rest (a.put o.dst v') w') : wpList P ops Q (o :: rest) a w :=
  wpList_plain hgd fun _ hK => wp_append_ex w s x t t' ho u v v' hs hx φ hr fun w' hw => hK _ _ (h w' hw)
theorem step_append_ex {P : Program} {ops : Array Oper} {o : Oper} {a : Act} {w : World} {K : Act → World → Prop} {Q : Exit → Act → World → Prop} {E : Prop} (hgd : o.guard = none) (s x : Operand) (t t' : TypeId)
    (ho : o.op = .call { callee := .builtin .append, args := #[s, x], argTypes := #[t, t'] }) (u v v' : Value) (hs : a.eval s = u) (hx : a.eval x = v) (φ : World → Prop)
    (hr : ∃ w', (Builtin.append_ #[t, t'] o.type #[u, v]).run P w = .ok v' w' ∧ φ w') (h : ∀ w', φ w' → K (a.put o.dst v') w') :
    if Region.wanted o (yielded ops a.tmps) = true then Oper.wp P o a w K Q else E := by
  have hw : Region.wanted o (yielded ops a.tmps) = true := by simp [Region.wanted, hgd]
  rw [if_pos hw]
  exact wp_append_ex w s x t t' ho u v v' hs hx φ hr h
theorem wpList_clear_ex {P : Program} {w : World} {ops : Array Oper} {rest : List Oper} {o : Oper} {a : Act} {Q : Exit → Act → World → Prop} (hgd : o.guard = none) (s : Operand) (t : TypeId)
    (ho : o.op = .call { callee := .builtin .clear, args := #[s], argTypes := #[t] }) (u v' : Value) (hs : a.eval s = u) (φ : World → Prop)
    (hr : ∃ w', (Builtin.clear_ #[t] o.type #[u]).run P w = .ok v' w' ∧ φ w') (h : ∀ w', φ w' → wpList P ops Q rest (a.put o.dst v') w') : wpList P ops Q (o :: rest) a w := by
  obtain ⟨w', hr, hf⟩ := hr
  refine wpList_plain hgd fun K hK => ?_
  unfold Oper.wp execOp
  simp only [ho, resolve, invoke, builtin, Sem.run_bind, Sem.run_pure, Result.andThen_ok, List.map_toArray, List.map_cons, List.map_nil, hs, hr]
  exact hK _ _ (h w' hf)

/-! ### splices of a list -/
theorem take_splice {α : Type} (L : List α) (o : Nat) (cs : List α) (ho : o ≤ L.length) (k : Nat) (hk : k = o + cs.length) : (splice L o cs).take k = L.take o ++ cs := by
  subst hk
  unfold splice
  rw [← List.append_assoc, List.take_left' (by simp; omega)]
theorem splice_get_lt {α : Type} (L : List α) (o j : Nat) (cs : List α) (ho : o ≤ L.length) (h : j < o) : (splice L o cs)[j]? = L[j]? := by
  unfold splice
  rw [List.getElem?_append_left (by simp; omega), List.getElem?_take, if_pos h]
theorem splice_get_in {α : Type} (L : List α) (o j : Nat) (cs : List α) (ho : o ≤ L.length) (h : j < cs.length) : (splice L o cs)[o + j]? = cs[j]? := by
  unfold splice
  rw [List.getElem?_append_right (by simp; omega), List.length_take, Nat.min_eq_left ho, Nat.add_sub_cancel_left, List.getElem?_append_left h]
theorem splice_get_gt {α : Type} (L : List α) (o j : Nat) (cs : List α) (ho : o + cs.length ≤ L.length) (h : o + cs.length ≤ j) : (splice L o cs)[j]? = L[j]? := by
  unfold splice
  rw [List.getElem?_append_right (by simp; omega), List.length_take, Nat.min_eq_left (by omega), List.getElem?_append_right (by omega), List.getElem?_drop]
  congr 1; omega
end Go.Proofs.YtockkjhciojgbaaGreatDoor
/- AppOwn -/
/- append(row, piece...) beside the rows of structs (the laws lie in App). No condition. -/
namespace Go.Proofs.YtockkjhciojgbaaGreatDoor
set_option maxRecDepth 100000
set_option linter.unusedSimpArgs false
end Go.Proofs.YtockkjhciojgbaaGreatDoor
/- SliceBin -/
/- slices.Insert and slices.Delete at the bins of hist: what they do to a row that is owned. No condition. -/
namespace Go.Proofs.YtockkjhciojgbaaGreatDoor
set_option maxRecDepth 100000
set_option linter.unusedSimpArgs false
open Go.RowKit
set_option linter.unusedVariables false

def fBin (b : Int × Nat) : List Value := [.int .i64 b.1, .int .i64 (b.2 : Int)]
def binC : List (Int × Nat) → List Value
  | [] => []
  | b :: bs => .int .i64 b.1 :: .int .i64 (b.2 : Int) :: binC bs
theorem binC_len : ∀ bs, (binC bs).length = bs.length * 2
  | [] => rfl
  | b :: bs => by simp [binC, binC_len bs]; omega
theorem binC_app : ∀ a b, binC (a ++ b) = binC a ++ binC b
  | [], b => rfl
  | x :: a, b => by simp [binC, binC_app a b]
theorem binC_take : ∀ (bs : List (Int × Nat)) (i : Nat), (binC bs).take (i * 2) = binC (bs.take i)
  | [], i => by simp [binC]
  | b :: bs, 0 => by simp [binC]
  | b :: bs, i + 1 => by rw [show (i + 1) * 2 = i * 2 + 2 by omega]; simp [binC, binC_take bs i]
theorem binC_drop : ∀ (bs : List (Int × Nat)) (i : Nat), (binC bs).drop (i * 2) = binC (bs.drop i)
  | [], i => by simp [binC]
  | b :: bs, 0 => by simp [binC]
  | b :: bs, i + 1 => by rw [show (i + 1) * 2 = i * 2 + 2 by omega]; simp [binC, binC_drop bs i]
theorem binC_one : ∀ bs, ∀ v ∈ binC bs, v.oneCell' = true
  | [], v, h => by cases h
  | b :: bs, v, h => by
    rw [binC] at h
    rcases List.mem_cons.1 h with h | h
    · rw [h]; rfl
    · rcases List.mem_cons.1 h with h | h
      · rw [h]; rfl
      · exact binC_one bs v h
theorem binC_get : ∀ {bs : List (Int × Nat)} {j : Nat} {b : Int × Nat}, bs[j]? = some b → (binC bs)[j * 2]? = some (.int .i64 b.1) ∧ (binC bs)[j * 2 + 1]? = some (.int .i64 (b.2 : Int))
  | [], j, b, h => by simp at h
  | x :: bs, 0, b, h => by simp at h; subst h; exact ⟨rfl, rfl⟩
  | x :: bs, j + 1, b, h => by
    have := binC_get (bs := bs) (j := j) (b := b) (by simpa using h)
    rw [show (j + 1) * 2 = j * 2 + 1 + 1 by omega]
    exact ⟨by simpa [binC] using this.1, by simpa [binC] using this.2⟩
theorem shift_take {cur P X D : List Value} {i n : Nat} (hP : cur.take (i * 2) = P) (hX : X.length = 2) (hD : D.length = (n - i) * 2) (hi : i ≤ n) (hl : (n + 1) * 2 ≤ cur.length) :
    (splice (splice cur (i * 2 + 2) D) (i * 2) X).take ((n + 1) * 2) = P ++ (X ++ D) := by
  have h1 : (splice cur (i * 2 + 2) D) = cur.take (i * 2 + 2) ++ (D ++ cur.drop (i * 2 + 2 + D.length)) := rfl
  have h2 : (splice cur (i * 2 + 2) D).take (i * 2) = P := by
    rw [h1, List.take_append_of_le_length (by simp; omega), List.take_take, Nat.min_eq_left (by omega), hP]
  have h3 : (splice cur (i * 2 + 2) D).drop (i * 2 + 2) = D ++ cur.drop (i * 2 + 2 + D.length) := by
    rw [h1]; exact List.drop_left' (by simp; omega)
  have hPl : P.length = i * 2 := by rw [← hP, List.length_take]; omega
  rw [show splice (splice cur (i * 2 + 2) D) (i * 2) X = (splice cur (i * 2 + 2) D).take (i * 2) ++ (X ++ (splice cur (i * 2 + 2) D).drop (i * 2 + X.length)) from rfl, hX, h2, h3, ← List.append_assoc X, ← List.append_assoc P]
  exact List.take_left' (by simp [hPl, hX, hD]; omega)
theorem grow_take {row P X D : List Value} {i n : Nat} (hP : row.take (i * 2) = P) (hX : X.length = 2) (hD : D.length = (n - i) * 2) (hi : i ≤ n) (hl : (n + 1) * 2 ≤ row.length) :
    (splice (splice row (i * 2) X) (i * 2 + 2) D).take ((n + 1) * 2) = P ++ (X ++ D) := by
  have h1 : splice row (i * 2) X = P ++ (X ++ row.drop (i * 2 + X.length)) := by rw [← hP]; rfl
  have hPl : P.length = i * 2 := by rw [← hP, List.length_take]; omega
  have h2 : (splice row (i * 2) X).take (i * 2 + 2) = P ++ X := by
    rw [h1, ← List.append_assoc]; exact List.take_left' (by simp [hPl, hX])
  rw [show splice (splice row (i * 2) X) (i * 2 + 2) D = (splice row (i * 2) X).take (i * 2 + 2) ++ (D ++ (splice row (i * 2) X).drop (i * 2 + 2 + D.length)) from rfl, h2, ← List.append_assoc (P ++ X)]
  rw [List.take_left' (by simp [hPl, hX, hD]; omega), List.append_assoc]
theorem cutA_at (g lo sz c : Nat) (h : c ≠ lo) : cutA (some ⟨g, 0, none⟩) lo sz c = some ⟨g, lo * sz, none⟩ := by
  unfold cutA
  rw [if_neg h, Option.map_some, Addr.add_lit, Nat.zero_add]
theorem Blk.at_take {w : World} {g : Nat} {t : TypeId} {cur : Array Value} {xs : List Value} {m o : Nat} (h : Blk w g t cur) (ht : cur.toList.take m = xs) (ys : List Value) (hy : xs.drop o = ys) : ∀ j v, ys[j]? = some v → w.cell? ((⟨g, o, none⟩ : Addr).add j) = some v := by
  intro j v hj
  rw [Addr.add_lit, h.cell]
  rw [← hy, List.getElem?_drop, ← ht, List.getElem?_take] at hj
  split at hj
  · simpa using hj
  · cases hj

set_option maxHeartbeats 4000000 in
theorem slices_InsertB (B vb i : Nat) (v : Value) (bs : List (Int × Nat)) (x : Int × Nat) (W : World) (HO : W.ownsRow B 273 2 v bs.length (binC bs)) (hvb : Blk W vb 273 (fBin x).toArray) (hne : v.ownBlock ≠ some vb)
    (hi : i ≤ bs.length) (hn : bs.length ≤ 100000) (hB : B ≤ W.heap.size) :
    Calls Tryz.prog 220 #[v, .int .i64 i, .slice (some ⟨vb, 0, none⟩) 1 1] W fun e w' => ∃ v', e = .returned v' ∧ w'.ownsRow B 273 2 v' (bs.length + 1) (binC (bs.take i ++ x :: bs.drop i)) ∧
      Mod (fun k => v.ownBlock = some k) W w' ∧ (v'.ownBlock = v.ownBlock ∨ ∃ b, v'.ownBlock = some b ∧ W.heap.size ≤ b) := by
  obtain ⟨A, c, rfl, hnc, hcm, -⟩ := own_rd HO
  obtain ⟨i0, hi0, hz⟩ := Option.map_eq_some_iff.1 (show (Tryz.prog.info? 273).map (fun i => (i.zero, i.size, i.bytes)) = some (some (.agg #[.int .i64 0, .int .i64 0]), 2, 16) by kernel_rfl)
  simp only [Prod.mk.injEq] at hz
  obtain ⟨hz0, hz1, hz2⟩ := hz
  have hx1 : ∀ u ∈ fBin x, u.oneCell' = true := by
    intro u hu
    unfold fBin at hu
    simp at hu
    rcases hu with h | h <;> rw [h] <;> rfl
  by_cases hend : i = bs.length
  · subst hend
    have hcut := cut_l (P := Tryz.prog) 191 273 2 Tryz.underlying191 (by kernel_rfl) A bs.length c bs.length (Nat.le_refl _)
    have HH := hid' HO
    have hbin : binC (bs.take bs.length ++ x :: bs.drop bs.length) = binC bs ++ fBin x := by
      rw [binC_app, List.take_length, List.drop_length]; rfl
    rw [hbin]
    clear HO hbin
    go_enter Tryz.func220, Tryz.ntmps220
    go_wp2_with (at_builtin; refine wpList_append_own_at _ rfl _ _ 191 rfl B 273 i0 (.agg #[.int .i64 0, .int .i64 0]) 2 16 (by kernel_rfl) hi0 hz0 hz1 hz2 rfl (by decide) _ _ _ rfl HH.out ⟨vb, 0, none⟩ 1 1 (fBin x) rfl rfl (World.news_of_block hvb) hx1 (by unfold maxLen; omega) (by omega) hB ?_)
    intro v1 w1 hown hg _ hat
    go_wp2
    go_ret
    refine ⟨v1, rfl, hown, (Mod.of_grown hg).mono (fun k _ h => h), ?_⟩
    rcases hat with h | h
    · exact .inl h
    · exact .inr ⟨_, h, Nat.le_refl _⟩
  · have hlt : i < bs.length := by omega
    obtain ⟨P, hP⟩ : ∃ P, P = binC (bs.take i) := ⟨_, rfl⟩
    obtain ⟨D, hD⟩ : ∃ D, D = binC (bs.drop i) := ⟨_, rfl⟩
    have hPl : P.length = i * 2 := by rw [hP, binC_len, List.length_take]; omega
    have hDl : D.length = (bs.length - i) * 2 := by rw [hD, binC_len, List.length_drop]
    have hXl : (fBin x).length = 2 := rfl
    have hD1 : ∀ u ∈ D, u.oneCell' = true := by rw [hD]; exact binC_one _
    have hres : binC (bs.take i ++ x :: bs.drop i) = P ++ (fBin x ++ D) := by rw [binC_app, hP, hD]; rfl
    have hPt : (binC bs).take (i * 2) = P := by rw [hP, binC_take]
    have hDt : (binC bs).drop (i * 2) = D := by rw [hD, binC_drop]
    rw [hres]
    rcases HO.2 with ⟨_, h0⟩ | ⟨g, c', cur, he, hBg, hh, h1, h2, h3, h4⟩
    · omega
    injection he with hA hnn hc
    subst hA hc
    have hblk : Blk W g 273 cur := hh
    have hgv : g ≠ vb := fun e => hne (by rw [← e]; rfl)
    clear hh hnn HO hP hD hres
    obtain ⟨n, hnn⟩ : ∃ n, n = bs.length := ⟨_, rfl⟩
    rw [← hnn] at hi hn hend hlt hnc hDl h1 h4 ⊢
    clear hnn
    obtain ⟨i1, hi1⟩ : ∃ i1 : Nat, i1 = i + 1 := ⟨_, rfl⟩
    obtain ⟨n1, hn1⟩ : ∃ n1 : Nat, n1 = n + 1 := ⟨_, rfl⟩
    have z1 : (i : Int) + 1 = (i1 : Int) := by omega
    have z2 : (n : Int) + 1 = (n1 : Int) := by omega
    have hcut := cut_l (P := Tryz.prog) 191 273 2 Tryz.underlying191 (by kernel_rfl) (some ⟨g, 0, none⟩) n c i (by omega)
    have hc63 : c ≤ 9223372036854775807 := h2
    by_cases hroom : n1 ≤ c
    · have hcut1 := cut_h (P := Tryz.prog) 191 273 2 Tryz.underlying191 (by kernel_rfl) (some ⟨g, 0, none⟩) n c n1 hroom
      have hcut2 : ∀ W, (Instr.slice 191 (.slice (some ⟨g, 0, none⟩) n1 c) (some (.int .i64 (i1 : Int))) none none).run Tryz.prog W = .ok (.slice (some ⟨g, i1 * 2, none⟩) (n1 - i1) (c - i1)) W := fun W => by
        rw [cut_l (P := Tryz.prog) 191 273 2 Tryz.underlying191 (by kernel_rfl) (some ⟨g, 0, none⟩) n1 c i1 (by omega), cutA_at g i1 2 c (by omega)]
      have hcut3 : ∀ W, (Instr.slice 191 (.slice (some ⟨g, 0, none⟩) n1 c) (some (.int .i64 (i : Int))) none none).run Tryz.prog W = .ok (.slice (some ⟨g, i * 2, none⟩) (n1 - i) (c - i)) W := fun W => by
        rw [cut_l (P := Tryz.prog) 191 273 2 Tryz.underlying191 (by kernel_rfl) (some ⟨g, 0, none⟩) n1 c i (by omega), cutA_at g i 2 c (by omega)]
      have hov : (callFunc 224 #[.slice (some ⟨vb, 0, none⟩) 1 1, .slice (some ⟨g, i1 * 2, none⟩) (n1 - i1) (c - i1)]).run Tryz.prog W = .ok (.value (.bool false)) W := by
        rw [run_callFunc_extern Tryz.func224 (by kernel_rfl) (by kernel_rfl) (by kernel_rfl) (e := Extern.SlicesOverlaps.overlaps #[191, 191] #[4]) (by kernel_rfl),
          Lib.run_overlaps_apart W 191 4 273 Tryz.underlying191 2 (by intro w; kernel_rfl) ⟨vb, 0, none⟩ ⟨g, i1 * 2, none⟩ 1 1 (n1 - i1) (c - i1) (Ne.symm hgv) 273 273 2 cur.size hvb.shape hblk.shape (by omega) (hvb.frozen 0) (hvb.frozen 2)]
        rfl
      have hcpA : ∀ (ty : TypeId) (W' : World), Dr W W' → ∃ W3, (Builtin.copy_ #[191, 191] ty #[.slice (some ⟨g, i1 * 2, none⟩) (n1 - i1) (c - i1), .slice (some ⟨g, i * 2, none⟩) (n1 - i) (c - i)]).run Tryz.prog W' = .ok (goInt (min (n1 - i) (n1 - i1) : Nat)) W3 ∧
          Hid (Blk W3 g 273 (splice cur.toList (i * 2 + 2) D).toArray ∧ Mod (fun k => k = g) W W3) := fun ty W' hd => by
        have hb : Blk W' g 273 cur := by obtain ⟨q, rfl⟩ := hd; exact hblk
        have := run_copy_rowK W' 191 191 ty 273 2 g (i1 * 2) (n1 - i1) (c - i1) ⟨g, i * 2, none⟩ (n1 - i) (c - i) cur 273 D Tryz.underlying191 (by kernel_rfl) hb (by rw [hDl, Nat.min_eq_right (by omega)]; congr 1; omega) (hb.at_take h4 D hDt) (by rw [hDl]; omega) hD1
        refine ⟨_, this, ?_, ?_⟩
        · rw [show i1 * 2 = i * 2 + 2 by omega]; exact setRow_blk hb _
        · exact (hd.mod).trans (setRow_mod _ _ _)
      have hcpB : ∀ (ty : TypeId) (W' W'' : World), Blk W' g 273 (splice cur.toList (i * 2 + 2) D).toArray ∧ Mod (fun k => k = g) W W' → Dr W' W'' → ∃ W3, (Builtin.copy_ #[191, 191] ty #[.slice (some ⟨g, i * 2, none⟩) (n1 - i) (c - i), .slice (some ⟨vb, 0, none⟩) 1 1]).run Tryz.prog W'' = .ok (goInt (min 1 (n1 - i) : Nat)) W3 ∧
          Hid (Blk W3 g 273 (splice (splice cur.toList (i * 2 + 2) D) (i * 2) (fBin x)).toArray ∧ Mod (fun k => k = g) W W3) := fun ty W' W'' hW hd => by
        have hb : Blk W'' g 273 (splice cur.toList (i * 2 + 2) D).toArray := by obtain ⟨q, rfl⟩ := hd; exact hW.1
        have hv1 : Blk W' vb 273 (fBin x).toArray := hvb.mod hW.2 (Ne.symm hgv)
        have hv2 : Blk W'' vb 273 (fBin x).toArray := by obtain ⟨q, rfl⟩ := hd; exact hv1
        have := run_copy_rowK W'' 191 191 ty 273 2 g (i * 2) (n1 - i) (c - i) ⟨vb, 0, none⟩ 1 1 _ 273 (fBin x) Tryz.underlying191 (by kernel_rfl) hb (by rw [hXl, Nat.min_eq_left (by omega)]) (World.news_of_block hv2) (by rw [List.size_toArray, length_splice _ _ _ (by rw [hDl, Array.length_toList]; omega), hXl, Array.length_toList]; omega) hx1
        refine ⟨_, this, ?_, ?_⟩
        · exact setRow_blk hb _
        · exact hW.2.trans ((hd.mod).trans (setRow_mod _ _ _))
      have hlen : cur.toList.length = c * 2 := by rw [Array.length_toList, h3]
      have hfin : (splice (splice cur.toList (i * 2 + 2) D) (i * 2) (fBin x)).take ((n + 1) * 2) = P ++ (fBin x ++ D) :=
        shift_take (by rw [← hPt, ← h4, List.take_take, Nat.min_eq_left (by omega)]) hXl hDl (by omega) (by omega)
      have hfl : (splice (splice cur.toList (i * 2 + 2) D) (i * 2) (fBin x)).length = c * 2 := by
        rw [length_splice _ _ _ (by rw [length_splice _ _ _ (by rw [hDl]; omega), hXl]; omega), length_splice _ _ _ (by rw [hDl]; omega), hlen]
      have HF := hid' (And.intro hfin hfl)
      have HA := hid' hcpA
      have HBB := hid' hcpB
      have HL := hid' (And.intro hPl (And.intro hDl hXl))
      have HN1 := hid' hn1
      have hw1 : IntKind.i64.wrap (i1 : Int) = (i1 : Int) := by rw [IntKind.wrap_i64]; omega
      have hw2 : IntKind.i64.wrap (n1 : Int) = (n1 : Int) := by rw [IntKind.wrap_i64]; omega
      have hne1 : ¬ (i : Int) = (n : Int) := by omega
      have hr1 : ¬ (c : Int) < (n1 : Int) := by omega
      have g1 : (0 : Int) ≤ (i1 : Int) := by omega
      have g2 : (i1 : Int) ≤ (n1 : Int) := by omega
      have g3 : (i : Int) ≤ (n1 : Int) := by omega
      have g4 : (n1 : Int) ≤ (c : Int) := by omega
      clear hi1 hn1
      clear hcpA hcpB hfin hfl hblk hvb hPt hDt h4 hPl hDl hXl hlen h3
      go_enter Tryz.func220, Tryz.ntmps220
      go_wp2_with (simp only [hov])
      go_region_law (refine step_copy_ex rfl (.tmp 73) (.tmp 76) 191 191 rfl _ _ _ (by simp [Act.eval, Act.put]) (by simp [Act.eval, Act.put]) _ (HA.out _ _ (by repeat (first | exact Dr.refl _ | apply Dr.step | apply Dr.stepd))) ?_; intro W3 hW3)
      go_wp2_with (refine wpList_copy_ex rfl _ _ 191 191 rfl (.slice (some ⟨g, i * 2, none⟩) (n1 - i) (c - i)) (.slice (some ⟨vb, 0, none⟩) 1 1) _ rfl rfl _ (HBB.out _ _ _ hW3.out (by repeat (first | exact Dr.refl _ | apply Dr.step | apply Dr.stepd))) ?_; intro W4 hW4)
      go_wp2
      go_ret
      obtain ⟨hb4, hm4⟩ := hW4.out
      refine ⟨_, rfl, ⟨?_, .inr ⟨g, c, _, by rw [← HN1.out]; rfl, hBg, hb4, by have := HN1.out; omega, h2, ?_, ?_⟩⟩, ?_, .inl rfl⟩
      · have := HL.out; have := HN1.out; simp; omega
      · rw [List.size_toArray, HF.out.2]
      · exact HF.out.1
      · exact hm4.mono (fun k _ h => by rw [h]; rfl)
    · obtain ⟨K, hK⟩ : ∃ K : Nat, K = n1 - i := ⟨_, rfl⟩
      have z3 : (n1 : Int) - (i : Int) = (K : Int) := by omega
      have hiK : i + K = n1 := by omega
      have hcuth := cut_h (P := Tryz.prog) 191 273 2 Tryz.underlying191 (by kernel_rfl) (some ⟨g, 0, none⟩) n c i (by omega)
      have hcutS : ∀ W, (Instr.slice 191 (.slice (some ⟨g, 0, none⟩) n c) (some (.int .i64 (i : Int))) none none).run Tryz.prog W = .ok (.slice (some ⟨g, i * 2, none⟩) (n - i) (c - i)) W := fun W => by
        rw [hcut, cutA_at g i 2 c (by omega)]
      obtain ⟨N, hN⟩ : ∃ N, N = W.heap.size := ⟨_, rfl⟩
      obtain ⟨G, hG⟩ : ∃ G, G = grownCap W n1 c 273 := ⟨_, rfl⟩
      have hGn : n1 ≤ G := by rw [hG]; exact grownCap_ge W _ _ _
      have hG63 : G ≤ maxLen := by
        have := grownCap_le_maxLen W n1 c 273 (by unfold maxLen; omega)
        rw [← hG] at this; exact this
      obtain ⟨ROW, hROW⟩ : ∃ ROW : Array Value, ROW = P.toArray ++ Builtin.zeroCells (Value.agg #[.int .i64 0, .int .i64 0]).cells K ++ Builtin.zeroCells (Value.agg #[.int .i64 0, .int .i64 0]).cells (G - n1) := ⟨_, rfl⟩
      have hRs : ROW.size = G * 2 := by
        rw [hROW]
        simp [Builtin.zeroCells, Value.cells, hPl]
        omega
      have hRt : ROW.toList.take (i * 2) = P := by
        rw [hROW, Array.append_assoc, Array.toList_append, List.toList_toArray]
        exact List.take_left' hPl
      have hap : ∀ (ty : TypeId), ∃ W1, (Builtin.append_ #[191, 3] ty #[.slice (some ⟨g, 0, none⟩) i c, .int .i64 (K : Int)]).run Tryz.prog W = .ok (.slice (some ⟨N, 0, none⟩) n1 G) W1 ∧ Hid (Blk W1 N 273 ROW ∧ Below W.heap.size W W1) := fun ty => by
        have hold : (Builtin.firstCells i0.size i (.slice (some ⟨g, 0, none⟩) i c)).run Tryz.prog W.drew = .ok P.toArray W.drew := by
          rw [hz1]
          exact run_firstCells_some W.drew 2 i ⟨g, 0, none⟩ i c P hPl (fun j v hj => by
            rw [← hPt] at hj
            exact hblk.at_take (o := 0) h4 (binC bs) (by simp) j v (by rw [List.getElem?_take] at hj; split at hj; exact hj; cases hj))
        have h := Lib.run_append_grow_zeros (P := Tryz.prog) W 191 3 ty 273 i0 _ .i64 .i64 Tryz.underlying191 Tryz.underlying3 hi0 hz0 (some ⟨g, 0, none⟩) i c P hold K (by omega) (by omega) (by omega) (by omega) (by rw [hz2]; omega)
          (by rw [hz2, hiK]; exact growslice_fits (by omega) (by omega))
        rw [hiK, ← hG, ← hROW, ← hN] at h
        refine ⟨_, h, ?_, ?_⟩
        · rw [hN]; exact Blk.new_ W.drew _ _
        · exact bel_alloc (bel_drew (bel_refl W)) _
      have hcN : ∀ W, (Instr.slice 191 (.slice (some ⟨N, 0, none⟩) n1 G) (some (.int .i64 (i : Int))) none none).run Tryz.prog W = .ok (.slice (some ⟨N, i * 2, none⟩) (n1 - i) (G - i)) W := fun W => by
        rw [cut_l (P := Tryz.prog) 191 273 2 Tryz.underlying191 (by kernel_rfl) (some ⟨N, 0, none⟩) n1 G i (by omega), cutA_at N i 2 G (by omega)]
      have hcN1 : ∀ W, (Instr.slice 191 (.slice (some ⟨N, 0, none⟩) n1 G) (some (.int .i64 (i1 : Int))) none none).run Tryz.prog W = .ok (.slice (some ⟨N, i1 * 2, none⟩) (n1 - i1) (G - i1)) W := fun W => by
        rw [cut_l (P := Tryz.prog) 191 273 2 Tryz.underlying191 (by kernel_rfl) (some ⟨N, 0, none⟩) n1 G i1 (by omega), cutA_at N i1 2 G (by omega)]
      have hgl : g < W.heap.size := hblk.lt
      have hvl : vb < W.heap.size := hvb.lt
      have hcpA : ∀ (ty : TypeId) (W' W'' : World), Blk W' N 273 ROW ∧ Below W.heap.size W W' → Dr W' W'' → ∃ W3, (Builtin.copy_ #[191, 191] ty #[.slice (some ⟨N, i * 2, none⟩) (n1 - i) (G - i), .slice (some ⟨vb, 0, none⟩) 1 1]).run Tryz.prog W'' = .ok (goInt (min 1 (n1 - i) : Nat)) W3 ∧
          Hid (Blk W3 N 273 (splice ROW.toList (i * 2) (fBin x)).toArray ∧ Below W.heap.size W W3) := fun ty W' W'' hW hd => by
        have hv1 : Blk W' vb 273 (fBin x).toArray := hvb.below hW.2
        have hv2 : Blk W'' vb 273 (fBin x).toArray := by obtain ⟨q, rfl⟩ := hd; exact hv1
        have hb : Blk W'' N 273 ROW := by obtain ⟨q, rfl⟩ := hd; exact hW.1
        have := run_copy_rowK W'' 191 191 ty 273 2 N (i * 2) (n1 - i) (G - i) ⟨vb, 0, none⟩ 1 1 _ 273 (fBin x) Tryz.underlying191 (by kernel_rfl) hb (by rw [hXl, Nat.min_eq_left (by omega)]) (World.news_of_block hv2) (by rw [hRs, hXl]; omega) hx1
        refine ⟨_, this, ?_, ?_⟩
        · exact setRow_blk hb _
        · exact below_setRow (bel_then hW.2 hd.below) (by omega) _
      have hcpB : ∀ (ty : TypeId) (W' W'' : World), Blk W' N 273 (splice ROW.toList (i * 2) (fBin x)).toArray ∧ Below W.heap.size W W' → Dr W' W'' → ∃ W3, (Builtin.copy_ #[191, 191] ty #[.slice (some ⟨N, i1 * 2, none⟩) (n1 - i1) (G - i1), .slice (some ⟨g, i * 2, none⟩) (n - i) (c - i)]).run Tryz.prog W'' = .ok (goInt (min (n - i) (n1 - i1) : Nat)) W3 ∧
          Hid (Blk W3 N 273 (splice (splice ROW.toList (i * 2) (fBin x)) (i * 2 + 2) D).toArray ∧ Below W.heap.size W W3) := fun ty W' W'' hW hd => by
        have hv1 : Blk W' g 273 cur := hblk.below hW.2
        have hv2 : Blk W'' g 273 cur := by obtain ⟨q, rfl⟩ := hd; exact hv1
        have hb : Blk W'' N 273 (splice ROW.toList (i * 2) (fBin x)).toArray := by obtain ⟨q, rfl⟩ := hd; exact hW.1
        have := run_copy_rowK W'' 191 191 ty 273 2 N (i1 * 2) (n1 - i1) (G - i1) ⟨g, i * 2, none⟩ (n - i) (c - i) _ 273 D Tryz.underlying191 (by kernel_rfl) hb (by rw [hDl]; congr 1; omega) (hv2.at_take h4 D hDt) (by rw [List.size_toArray, length_splice _ _ _ (by rw [hXl, Array.length_toList]; omega), hDl, Array.length_toList]; omega) hD1
        refine ⟨_, this, ?_, ?_⟩
        · rw [show i1 * 2 = i * 2 + 2 by omega]; exact setRow_blk hb _
        · exact below_setRow (bel_then hW.2 hd.below) (by omega) _
      have hlen : ROW.toList.length = G * 2 := by rw [Array.length_toList, hRs]
      have hfin : (splice (splice ROW.toList (i * 2) (fBin x)) (i * 2 + 2) D).take ((n + 1) * 2) = P ++ (fBin x ++ D) := grow_take hRt hXl hDl (by omega) (by omega)
      have hfl : (splice (splice ROW.toList (i * 2) (fBin x)) (i * 2 + 2) D).length = G * 2 := by
        rw [length_splice _ _ _ (by rw [length_splice _ _ _ (by rw [hXl]; omega), hDl]; omega), length_splice _ _ _ (by rw [hXl]; omega), hlen]
      have HF := hid' (And.intro hfin hfl)
      have HP := hid' hap
      have HA := hid' hcpA
      have HBB := hid' hcpB
      have HL := hid' (And.intro hPl (And.intro hDl hXl))
      have HN1 := hid' hn1
      have HNN := hid' hN
      have hw1 : IntKind.i64.wrap (i1 : Int) = (i1 : Int) := by rw [IntKind.wrap_i64]; omega
      have hw2 : IntKind.i64.wrap (n1 : Int) = (n1 : Int) := by rw [IntKind.wrap_i64]; omega
      have hw3 : IntKind.i64.wrap (K : Int) = (K : Int) := by rw [IntKind.wrap_i64]; omega
      have hne1 : ¬ (i : Int) = (n : Int) := by omega
      have hr1 : (c : Int) < (n1 : Int) := by omega
      have g1 : (0 : Int) ≤ (i1 : Int) := by omega
      have g2 : (i1 : Int) ≤ (n1 : Int) := by omega
      have g3 : (i : Int) ≤ (n1 : Int) := by omega
      have g4 : (0 : Int) ≤ (K : Int) := by omega
      have HI := hid' (show B ≤ N by omega)
      clear hcut hi1 hn1 hK hiK hN hG hROW hRs hRt hlen
      clear hcpA hcpB hfin hfl hblk hvb hPt hDt h4 hPl hDl hXl h3 hap
      go_enter Tryz.func220, Tryz.ntmps220
      go_wp2_with (first
        | (at_builtin; refine wpList_append_ex rfl _ _ 191 3 rfl (.slice (some ⟨g, 0, none⟩) i c) (.int .i64 (K : Int)) _ rfl rfl _ (HP.out _) ?_; intro W1 hW1)
        | (refine wpList_copy_ex rfl _ _ 191 191 rfl (.slice (some ⟨N, i * 2, none⟩) (n1 - i) (G - i)) (.slice (some ⟨vb, 0, none⟩) 1 1) _ rfl rfl _ (HA.out _ _ _ hW1.out (by repeat (first | exact Dr.refl _ | apply Dr.step | apply Dr.stepd))) ?_; intro W2 hW2))
      go_region_law (refine step_copy_ex rfl (.tmp 50) (.tmp 53) 191 191 rfl (.slice (some ⟨N, i1 * 2, none⟩) (n1 - i1) (G - i1)) (.slice (some ⟨g, i * 2, none⟩) (n - i) (c - i)) _ (by simp [Act.eval, Act.put]) (by simp [Act.eval, Act.put]) _ (HBB.out _ _ _ hW2.out (by repeat (first | exact Dr.refl _ | apply Dr.step | apply Dr.stepd))) ?_; intro W4 hW4)
      go_wp2
      go_ret
      obtain ⟨hb4, hm4⟩ := hW4.out
      refine ⟨_, rfl, ⟨?_, .inr ⟨N, G, _, by rw [← HN1.out]; rfl, HI.out, hb4, by have := HN1.out; omega, hG63, ?_, ?_⟩⟩, ?_, .inr ⟨N, rfl, by rw [HNN.out]; exact Nat.le_refl _⟩⟩
      · have := HL.out; have := HN1.out; simp; omega
      · rw [List.size_toArray, HF.out.2]
      · exact HF.out.1
      · exact Mod.of_below hm4

theorem del_take {cur P D Z : List Value} {i n : Nat} (hP : cur.take (i * 2) = P) (hD : D.length = (n - (i + 1)) * 2) (hZ : Z.length = 2) (hi : i < n) (hl : n * 2 ≤ cur.length) :
    (splice (splice cur (i * 2) D) ((n - 1) * 2) Z).take ((n - 1) * 2) = P ++ D := by
  have hPl : P.length = i * 2 := by rw [← hP, List.length_take]; omega
  have h0 : (splice cur (i * 2) D).length = cur.length := length_splice _ _ _ (by rw [hD]; omega)
  rw [show splice (splice cur (i * 2) D) ((n - 1) * 2) Z = (splice cur (i * 2) D).take ((n - 1) * 2) ++ (Z ++ (splice cur (i * 2) D).drop ((n - 1) * 2 + Z.length)) from rfl]
  rw [List.take_left' (by rw [List.length_take, h0]; omega)]
  rw [show splice cur (i * 2) D = cur.take (i * 2) ++ (D ++ cur.drop (i * 2 + D.length)) from rfl, hP, ← List.append_assoc]
  exact List.take_left' (by simp [hPl, hD]; omega)
theorem slices_DeleteB (B i : Nat) (v : Value) (bs : List (Int × Nat)) (W : World) (HO : W.ownsRow B 273 2 v bs.length (binC bs)) (hi : i < bs.length) (hn : bs.length ≤ 100000) :
    Calls Tryz.prog 219 #[v, .int .i64 i, .int .i64 ((i : Int) + 1)] W fun e w' => ∃ v', e = .returned v' ∧ w'.ownsRow B 273 2 v' (bs.length - 1) (binC (bs.take i ++ bs.drop (i + 1))) ∧
      Mod (fun k => v.ownBlock = some k) W w' ∧ v'.ownBlock = v.ownBlock := by
  obtain ⟨A, c, rfl, hnc, hcm, -⟩ := own_rd HO
  obtain ⟨i0, hi0, hz⟩ := Option.map_eq_some_iff.1 (show (Tryz.prog.info? 273).map (fun i => (i.zero, i.size, i.bytes)) = some (some (.agg #[.int .i64 0, .int .i64 0]), 2, 16) by kernel_rfl)
  simp only [Prod.mk.injEq] at hz
  obtain ⟨hz0, hz1, hz2⟩ := hz
  obtain ⟨P, hP⟩ : ∃ P, P = binC (bs.take i) := ⟨_, rfl⟩
  obtain ⟨D, hD⟩ : ∃ D, D = binC (bs.drop (i + 1)) := ⟨_, rfl⟩
  have hPl : P.length = i * 2 := by rw [hP, binC_len, List.length_take]; omega
  have hDl : D.length = (bs.length - (i + 1)) * 2 := by rw [hD, binC_len, List.length_drop]
  have hD1 : ∀ u ∈ D, u.oneCell' = true := by rw [hD]; exact binC_one _
  have hres : binC (bs.take i ++ bs.drop (i + 1)) = P ++ D := by rw [binC_app, hP, hD]
  have hPt : (binC bs).take (i * 2) = P := by rw [hP, binC_take]
  have hDt : (binC bs).drop ((i + 1) * 2) = D := by rw [hD, binC_drop]
  rw [hres]
  rcases HO.2 with ⟨_, h0⟩ | ⟨g, c', cur, he, hBg, hh, h1, h2, h3, h4⟩
  · omega
  injection he with hA hnn hc
  subst hA hc
  have hblk : Blk W g 273 cur := hh
  clear hh hnn HO hP hD hres
  obtain ⟨n, hnn⟩ : ∃ n, n = bs.length := ⟨_, rfl⟩
  rw [← hnn] at hi hn hnc hDl h1 h4 ⊢
  clear hnn
  obtain ⟨i1, hi1⟩ : ∃ i1 : Nat, i1 = i + 1 := ⟨_, rfl⟩
  obtain ⟨n1, hn1⟩ : ∃ n1 : Nat, n1 = n - 1 := ⟨_, rfl⟩
  have z1 : (i : Int) + 1 = (i1 : Int) := by omega
  have hlen : cur.toList.length = c * 2 := by rw [Array.length_toList, h3]
  rw [z1]
  have hcuth := cut_h (P := Tryz.prog) 191 273 2 Tryz.underlying191 (by kernel_rfl) (some ⟨g, 0, none⟩) n c i (by omega)
  obtain ⟨A2, hA2⟩ : ∃ A2 : Addr, (if c = i1 then some (⟨g, 0, none⟩ : Addr) else some ⟨g, i1 * 2, none⟩) = some A2 ∧ (0 < D.length → A2 = ⟨g, i1 * 2, none⟩) := by
    by_cases h : c = i1
    · exact ⟨⟨g, 0, none⟩, by rw [if_pos h], fun hl => by omega⟩
    · exact ⟨⟨g, i1 * 2, none⟩, by rw [if_neg h], fun _ => rfl⟩
  have hcutS : ∀ W, (Instr.slice 191 (.slice (some ⟨g, 0, none⟩) n c) (some (.int .i64 (i1 : Int))) none none).run Tryz.prog W = .ok (.slice (some A2) (n - i1) (c - i1)) W := fun W => by
    rw [cut_l (P := Tryz.prog) 191 273 2 Tryz.underlying191 (by kernel_rfl) (some ⟨g, 0, none⟩) n c i1 (by omega)]
    unfold cutA
    rw [← hA2.1, Option.map_some, Addr.add_lit, Nat.zero_add]
  have hcutZ : ∀ W, (Instr.slice 191 (.slice (some ⟨g, 0, none⟩) n1 c) (some (.int .i64 (n1 : Int))) (some (.int .i64 (n : Int))) none).run Tryz.prog W = .ok (.slice (some ⟨g, n1 * 2, none⟩) 1 (c - n1)) W := fun W => by
    rw [cut_lh (P := Tryz.prog) 191 273 2 Tryz.underlying191 (by kernel_rfl) (some ⟨g, 0, none⟩) n1 c n1 n (by omega) (by omega), cutA_at g n1 2 c (by omega), show n - n1 = 1 by omega]
  have hap : ∀ (ty : TypeId) (W' : World), Dr W W' → ∃ W1, (Builtin.append_ #[191, 191] ty #[.slice (some ⟨g, 0, none⟩) i c, .slice (some A2) (n - i1) (c - i1)]).run Tryz.prog W' = .ok (.slice (some ⟨g, 0, none⟩) n1 c) W1 ∧
      Hid (Blk W1 g 273 (splice cur.toList (i * 2) D).toArray ∧ Mod (fun k => k = g) W W1) := fun ty W' hd => by
    have hb : Blk W' g 273 cur := by obtain ⟨q, rfl⟩ := hd; exact hblk
    have h := run_append_room_cells (P := Tryz.prog) W' 191 ty 273 i0 Tryz.underlying191 hi0 g 0 i c A2 (n - i1) (c - i1) D (by rw [hz1, hDl, hi1])
      (fun j v hj => by
        have hjl : j < D.length := (List.getElem?_eq_some_iff.1 hj).1
        rw [hA2.2 (by omega)]
        exact hb.at_take h4 D (by rw [hi1]; exact hDt) j v hj) hD1 (by omega)
      (fun j hj => by rw [hz1, hb.cell, Array.getElem?_eq_getElem (by omega)]; rfl) (fun j hj => hb.frozen _)
    rw [hz1, Nat.zero_add, setCells_row g 273 (0, 0) D (i * 2) cur W' hb (by omega), show i + (n - i1) = n1 by omega] at h
    exact ⟨_, h, setRow_blk hb _, (hd.mod).trans (setRow_mod _ _ _)⟩
  have hcl : ∀ (ty : TypeId) (W' W'' : World), Blk W' g 273 (splice cur.toList (i * 2) D).toArray ∧ Mod (fun k => k = g) W W' → Dr W' W'' → ∃ W3, (Builtin.clear_ #[191] ty #[.slice (some ⟨g, n1 * 2, none⟩) 1 (c - n1)]).run Tryz.prog W'' = .ok (.tuple #[]) W3 ∧
      Hid (Blk W3 g 273 (splice (splice cur.toList (i * 2) D) (n1 * 2) [.int .i64 0, .int .i64 0]).toArray ∧ Mod (fun k => k = g) W W3) := fun ty W' W'' hW hd => by
    have hb : Blk W'' g 273 (splice cur.toList (i * 2) D).toArray := by obtain ⟨q, rfl⟩ := hd; exact hW.1
    have h := run_clear_row1 (P := Tryz.prog) W'' 191 273 ty (.agg #[.int .i64 0, .int .i64 0]) [.int .i64 0, .int .i64 0] Tryz.underlying191 (by intro w; kernel_rfl) rfl (by intro v hv; simp at hv; rw [hv]; rfl) g (n1 * 2) (c - n1) _ 273 hb
      (by rw [List.size_toArray, length_splice _ _ _ (by rw [hlen, hDl]; omega), hlen]; simp; omega)
    exact ⟨_, h, setRow_blk hb _, hW.2.trans ((hd.mod).trans (setRow_mod _ _ _))⟩
  have hfin : (splice (splice cur.toList (i * 2) D) (n1 * 2) [.int .i64 0, .int .i64 0]).take (n1 * 2) = P ++ D := by
    rw [hn1]
    exact del_take (by rw [← hPt, ← h4, List.take_take, Nat.min_eq_left (by omega)]) hDl rfl hi (by omega)
  have hfl : (splice (splice cur.toList (i * 2) D) (n1 * 2) [.int .i64 0, .int .i64 0]).length = c * 2 := by
    rw [length_splice _ _ _ (by rw [length_splice _ _ _ (by rw [hDl]; omega)]; simp; omega), length_splice _ _ _ (by rw [hDl]; omega), hlen]
  have HF := hid' (And.intro hfin hfl)
  have HA := hid' hap
  have HC := hid' hcl
  have HL := hid' (And.intro hPl hDl)
  have HN1 := hid' hn1
  have HI1 := hid' hi1
  have hne1 : ¬ (i : Int) = (i1 : Int) := by omega
  have g1 : (0 : Int) ≤ (i1 : Int) := by omega
  have g2 : (i1 : Int) ≤ (n : Int) := by omega
  have g3 : (i : Int) ≤ (i1 : Int) := by omega
  clear hap hcl hfin hfl hblk hPt hDt h4 hPl hDl hlen h3 hA2 hi1 hn1 z1
  go_enter Tryz.func219, Tryz.ntmps219
  go_wp2_with fail
  go_region_law (refine step_append_ex rfl (.tmp 22) (.tmp 25) 191 191 rfl (.slice (some ⟨g, 0, none⟩) i c) (.slice (some A2) (n - i1) (c - i1)) _ (by simp [Act.eval, Act.put]) (by simp [Act.eval, Act.put]) _ (HA.out _ _ (by repeat (first | exact Dr.refl _ | apply Dr.step | apply Dr.stepd))) ?_; intro W1 hW1)
  go_wp2_with (refine wpList_clear_ex rfl _ 191 rfl (.slice (some ⟨g, n1 * 2, none⟩) 1 (c - n1)) _ rfl _ (HC.out _ _ _ hW1.out (by repeat (first | exact Dr.refl _ | apply Dr.step | apply Dr.stepd))) ?_; intro W3 hW3)
  go_ret
  obtain ⟨hb4, hm4⟩ := hW3.out
  refine ⟨_, rfl, ⟨?_, .inr ⟨g, c, _, by rw [← HN1.out]; rfl, hBg, hb4, by have := HN1.out; omega, h2, ?_, ?_⟩⟩, ?_, rfl⟩
  · have := HL.out; have := HN1.out; simp; omega
  · rw [List.size_toArray, HF.out.2]
  · rw [← HN1.out]; exact HF.out.1
  · exact hm4.mono (fun k _ h => by rw [h]; rfl)
end Go.Proofs.YtockkjhciojgbaaGreatDoor
/- Hist -/
/- What the functions of hist do to their row of bins. No condition. -/
namespace Go.Proofs.YtockkjhciojgbaaGreatDoor
set_option maxRecDepth 100000
set_option linter.unusedSimpArgs false
open Go.RowKit
set_option linter.unusedVariables false

def cmpB (m n : Int) : Int := if m < n then -1 else if n < m then 1 else 0
theorem hist_cmp (m k n : Int) (w : World) :
    Calls Tryz.prog 223 #[.agg #[.int .i64 m, .int .i64 k], .int .i64 n] w fun e w' => e = .returned (.int .i64 (cmpB m n)) ∧ Below w.heap.size w w' := by
  unfold cmpB
  by_cases h1 : m < n
  · rw [if_pos h1]
    go_enter Tryz.func223, Tryz.ntmps223
    go_wp2
    go_ret
    exact ⟨rfl, (by repeat (first | assumption | apply bel_alloc | apply bel_drewN | apply bel_drew | exact bel_refl _))⟩
  · rw [if_neg h1]
    by_cases h2 : n < m
    · rw [if_pos h2]
      go_enter Tryz.func223, Tryz.ntmps223
      go_wp2
      go_ret
      exact ⟨rfl, (by repeat (first | assumption | apply bel_alloc | apply bel_drewN | apply bel_drew | exact bel_refl _))⟩
    · rw [if_neg h2]
      go_enter Tryz.func223, Tryz.ntmps223
      go_wp2
      go_ret
      exact ⟨rfl, (by repeat (first | assumption | apply bel_alloc | apply bel_drewN | apply bel_drew | exact bel_refl _))⟩
theorem own_rdS {w : World} {B : Nat} {v : Value} {bs : List (Int × Nat)} (h : w.ownsRow B 273 2 v bs.length (binC bs)) :
    ∃ A c, v = .slice A bs.length c ∧ bs.length ≤ c ∧ c ≤ maxLen ∧ RdS w A 2 fBin bs := by
  obtain ⟨A, c, hv, h1, h2, hr⟩ := own_rd h
  refine ⟨A, c, hv, h1, h2, fun j x hx => ?_⟩
  obtain ⟨g0, g1⟩ := binC_get hx
  obtain ⟨ad, hA, c0⟩ := hr _ _ g0
  refine ⟨ad, hA, rfl, fun i u hi => ?_⟩
  match i, hi with
  | 0, hi =>
    simp [fBin] at hi; subst hi
    rw [add_add']; exact c0
  | 1, hi =>
    simp [fBin] at hi; subst hi
    obtain ⟨ad', hA', c1⟩ := hr _ _ g1
    rw [hA] at hA'; injection hA' with hA'; subst hA'
    rw [add_add']; exact c1
theorem posB_at : ∀ {bs : List (Int × Nat)} {n : Int} (i : Nat), SortB bs → i ≤ bs.length → (∀ t b, t < i → bs[t]? = some b → b.1 < n) → (∀ t b, i ≤ t → bs[t]? = some b → n ≤ b.1) → posB n bs = i ∧ isB n bs = (match bs[i]? with | some b => decide (b.1 = n) | none => false)
  | [], n, i, _, hi, _, _ => by
    have : i = 0 := by simpa using hi
    subst this; exact ⟨rfl, rfl⟩
  | b :: bs, n, 0, hs, _, _, h2 => by
    have := h2 0 b (Nat.le_refl _) rfl
    rw [posB, isB, if_neg (Int.not_lt.2 this), if_neg (Int.not_lt.2 this)]
    exact ⟨rfl, rfl⟩
  | b :: bs, n, i + 1, hs, hi, h1, h2 => by
    have hb := h1 0 b (by omega) rfl
    have ih := posB_at (bs := bs) (n := n) i hs.tail (by simpa using hi) (fun t x ht hx => h1 (t + 1) x (by omega) (by simpa using hx)) (fun t x ht hx => h2 (t + 1) x (by omega) (by simpa using hx))
    rw [posB, isB, if_pos hb, if_pos hb, ih.1, ih.2]
    exact ⟨rfl, by simp⟩
theorem sort_get : ∀ {bs : List (Int × Nat)} {i j : Nat} {a b : Int × Nat}, SortB bs → i < j → bs[i]? = some a → bs[j]? = some b → a.1 < b.1
  | [], i, j, a, b, _, _, h, _ => by simp at h
  | x :: bs, 0, j + 1, a, b, hs, _, ha, hb => by
    simp at ha; subst ha
    exact hs.head b (List.mem_of_getElem? (by simpa using hb))
  | x :: bs, i + 1, j + 1, a, b, hs, hij, ha, hb => sort_get (i := i) (j := j) hs.tail (by omega) (by simpa using ha) (by simpa using hb)

set_option maxHeartbeats 2000000 in
theorem slices_BSearch (A : Option Addr) (c : Nat) (bs : List (Int × Nat)) (n : Int) (w : World) (hr : RdS w A 2 fBin bs) (hs : SortB bs) (hn : bs.length ≤ 100000) :
    Calls Tryz.prog 222 #[.slice A bs.length c, .int .i64 n, .func (.func 223) #[] #[]] w fun e w' =>
      e = .returned (.tuple #[.int .i64 (posB n bs : Nat), .bool (isB n bs)]) ∧ Below w.heap.size w w' := by
  have HR := hid' hr
  have HS := hid' hs
  have HP := hid' (fun i => posB_at (bs := bs) (n := n) i hs)
  clear hr hs
  go_enter Tryz.func222, Tryz.ntmps222
  go_wp2
  go_loopg [9, 10] bs.length (fun gg s9 s10 wr => ∃ lo hi : Nat, s9 = .int .i64 lo ∧ s10 = .int .i64 hi ∧ lo ≤ hi ∧ hi ≤ bs.length ∧ hi - lo ≤ gg ∧ Below w.heap.size w wr ∧
    Hid ((∀ t b, t < lo → bs[t]? = some b → b.1 < n) ∧ (∀ t b, hi ≤ t → bs[t]? = some b → n ≤ b.1)))
  case atStart => exact ⟨0, bs.length, rfl, rfl, Nat.zero_le _, Nat.le_refl _, by omega, bel_refl w, ⟨fun t b ht => by omega, fun t b ht hb => by have := (List.getElem?_eq_some_iff.1 hb).1; omega⟩⟩
  case round =>
    obtain ⟨lo, hi, rfl, rfl, hlh, hin, hg, hB, I⟩ := hrel
    by_cases hlt : lo < hi
    · obtain ⟨k, hk⟩ : ∃ k, k = (lo + hi) / 2 := ⟨_, rfl⟩
      have hmid : ((lo : Int) + (hi : Int)) / 2 = (k : Int) := by omega
      obtain ⟨b, hb⟩ : ∃ b, bs[k]? = some b := ⟨_, List.getElem?_eq_getElem (by omega)⟩
      obtain ⟨ad, rfl, -, hc⟩ := HR.out.below hB k b hb
      have hc0 : wr.cell? (ad.add (k * 2)) = some (.int .i64 b.1) := hc 0 _ rfl
      have hc1 : wr.cell? ⟨(ad.add (k * 2)).block, (ad.add (k * 2)).off + 1, none⟩ = some (.int .i64 (b.2 : Int)) := hc 1 _ rfl
      have hkl : k < bs.length := by omega
      have hk1 : lo ≤ k := by omega
      have hk2 : k < hi := by omega
      have HK := hid' hb
      clear hc hb hk
      by_cases hcb : b.1 < n
      · have hcm : cmpB b.1 n = -1 := by unfold cmpB; rw [if_pos hcb]
        have I2 : Hid ((∀ t b, t < k + 1 → bs[t]? = some b → b.1 < n) ∧ (∀ t b, hi ≤ t → bs[t]? = some b → n ≤ b.1)) := ⟨fun t x ht hx => by
          by_cases e : t = k
          · subst e; have := HK.out; rw [hx] at this; injection this with this; subst this; exact hcb
          · have := sort_get HS.out (show t < k by omega) hx HK.out; omega, I.out.2⟩
        clear hcb I
        go_wp2_with (go_at_call 223; refine (hist_cmp _ _ _ _).mono ?_; rintro e w2 ⟨rfl, hB2⟩)
        all_goals first | (exfalso; omega) | skip
        go_roundg (hi - (k + 1))
        case measure => omega
        case rel => exact ⟨k + 1, hi, by go_num, rfl, by omega, hin, Nat.le_refl _, bel_then hB hB2, I2⟩
      · have hcm : 0 ≤ cmpB b.1 n := by unfold cmpB; rw [if_neg hcb]; split <;> omega
        have I2 : Hid ((∀ t b, t < lo → bs[t]? = some b → b.1 < n) ∧ (∀ t b, k ≤ t → bs[t]? = some b → n ≤ b.1)) := ⟨I.out.1, fun t x ht hx => by
          by_cases e : t = k
          · subst e; have := HK.out; rw [hx] at this; injection this with this; subst this; exact Int.not_lt.1 hcb
          · have := sort_get HS.out (show k < t by omega) HK.out hx; omega⟩
        clear hcb I
        go_wp2_with (go_at_call 223; refine (hist_cmp _ _ _ _).mono ?_; rintro e w2 ⟨rfl, hB2⟩)
        all_goals first | (exfalso; omega) | skip
        go_roundg (k - lo)
        case measure => omega
        case rel => exact ⟨lo, k, rfl, rfl, hk1, by omega, Nat.le_refl _, bel_then hB hB2, I2⟩
    · obtain rfl : hi = lo := by omega
      obtain ⟨e1, e2⟩ := HP.out hi hin I.out.1 I.out.2
      have E1 := hid' e1
      have E2 := hid' e2
      clear e1 e2 I
      by_cases hl : hi < bs.length
      · obtain ⟨b, hb⟩ : ∃ b, bs[hi]? = some b := ⟨_, List.getElem?_eq_getElem hl⟩
        obtain ⟨ad, rfl, -, hc⟩ := HR.out.below hB hi b hb
        have hc0 : wr.cell? (ad.add (hi * 2)) = some (.int .i64 b.1) := hc 0 _ rfl
        have hc1 : wr.cell? ⟨(ad.add (hi * 2)).block, (ad.add (hi * 2)).off + 1, none⟩ = some (.int .i64 (b.2 : Int)) := hc 1 _ rfl
        rw [hb] at E2
        simp only at E2
        clear hc hb
        by_cases hcb : b.1 = n
        · have hcm : cmpB b.1 n = 0 := by unfold cmpB; rw [if_neg (by omega), if_neg (by omega)]
          rw [show decide (b.1 = n) = true from decide_eq_true hcb] at E2
          clear hcb
          go_wp2_with (go_at_call 223; refine (hist_cmp _ _ _ _).mono ?_; rintro e w2 ⟨rfl, hB2⟩; rw [hcm])
          go_ret2
          exact ⟨by rw [E1.out, E2.out]; rfl, bel_then hB hB2⟩
        · have hcm : (cmpB b.1 n == 0) = false := by unfold cmpB; split; rfl; split; rfl; omega
          rw [show decide (b.1 = n) = false from decide_eq_false hcb] at E2
          clear hcb
          go_wp2_with (go_at_call 223; refine (hist_cmp _ _ _ _).mono ?_; rintro e w2 ⟨rfl, hB2⟩)
          go_ret2
          exact ⟨by rw [E1.out, E2.out]; rfl, bel_then hB hB2⟩
      · rw [List.getElem?_eq_none (by omega)] at E2
        simp only at E2
        go_wp2
        go_ret2
        exact ⟨by rw [E1.out, E2.out]; rfl, hB⟩

theorem hist_find (g o B : Nat) (v : Value) (bs : List (Int × Nat)) (n : Int) (w : World) (hc : w.cell? ⟨g, o, none⟩ = some v) (HO : w.ownsRow B 273 2 v bs.length (binC bs)) (hs : SortB bs) (hn : bs.length ≤ 100000) :
    Calls Tryz.prog 218 #[.pointer (some ⟨g, o, none⟩), .int .i64 n] w fun e w' => e = .returned (.tuple #[.int .i64 (posB n bs : Nat), .bool (isB n bs)]) ∧ Below w.heap.size w w' := by
  obtain ⟨A, c, rfl, -, -, hr⟩ := own_rdS HO
  have H := hid' (fun w (hr : RdS w A 2 fBin bs) => slices_BSearch A c bs n w hr hs hn)
  have HR := hid' hr
  clear hr HO hs
  go_enter Tryz.func218, Tryz.ntmps218
  go_wp2_with (go_at_call 222; refine (H.out _ HR.out).mono ?_; rintro e w2 ⟨rfl, hB2⟩)
  go_ret2
  exact ⟨rfl, hB2⟩
def rkR (bs : List (Int × Nat)) (k : Int) : Int × Bool := if k < 1 then (0, false) else rankV (rankB bs k.toNat)
set_option maxHeartbeats 2000000 in
theorem hist_Rank (g o B : Nat) (v : Value) (bs : List (Int × Nat)) (k : Int) (w : World) (hc : w.cell? ⟨g, o, none⟩ = some v) (HO : w.ownsRow B 273 2 v bs.length (binC bs)) (hn : bs.length ≤ 100000) (hk : I64 k) (hsz : ∀ b ∈ bs, b.2 ≤ 100000) :
    Calls Tryz.prog 221 #[.pointer (some ⟨g, o, none⟩), .int .i64 k] w fun e w' => e = .returned (.tuple #[.int .i64 (rkR bs k).1, .bool (rkR bs k).2]) ∧ Below w.heap.size w w' := by
  obtain ⟨A, c, rfl, -, -, hr⟩ := own_rdS HO
  have HR := hid' hr
  have HZ := hid' (fun i b (h : bs[i]? = some b) => hsz b (List.mem_of_getElem? h))
  clear hr HO hsz
  obtain ⟨R, hR⟩ : ∃ R, R = rkR bs k := ⟨_, rfl⟩
  rw [← hR]
  unfold rkR at hR
  by_cases h1 : k < 1
  · rw [if_pos h1] at hR
    subst hR
    go_enter Tryz.func221, Tryz.ntmps221
    go_wp2
    go_ret2
    exact ⟨rfl, bel_refl w⟩
  · rw [if_neg h1] at hR
    have HRR := hid' hR
    clear hR
    unfold I64 at hk
    go_enter Tryz.func221, Tryz.ntmps221
    go_wp2
    go_loopw [1, 15] (fun v1 v15 wr => ∃ (i : Nat) (kk : Nat), v15 = .int .i64 i ∧ v1 = .int .i64 (kk : Int) ∧ i ≤ bs.length ∧ 1 ≤ kk ∧ (kk : Int) ≤ 9223372036854775807 ∧ Below w.heap.size w wr ∧ Hid (R = rankV (rankB (bs.drop i) kk))) (fun _ v15 _ => bs.length - (intOf v15).toNat)
    case atStart => exact ⟨0, k.toNat, rfl, by rw [Int.toNat_of_nonneg (by omega)], Nat.zero_le _, by omega, by omega, bel_refl w, HRR.out⟩
    case round =>
      obtain ⟨i, kk, rfl, rfl, hin, hk1, hk2, hB, HE⟩ := hrel
      clear HRR
      by_cases hlt : i < bs.length
      · obtain ⟨b, hb⟩ : ∃ b, bs[i]? = some b := ⟨_, List.getElem?_eq_getElem hlt⟩
        obtain ⟨ad, rfl, -, hc⟩ := HR.out.below hB i b hb
        have hc0 : wr.cell? (ad.add (i * 2)) = some (.int .i64 b.1) := hc 0 _ rfl
        have hc1 : wr.cell? ⟨(ad.add (i * 2)).block, (ad.add (i * 2)).off + 1, none⟩ = some (.int .i64 (b.2 : Int)) := hc 1 _ rfl
        have hb2 := HZ.out i b hb
        have hdr : bs.drop i = b :: bs.drop (i + 1) := by
          rw [List.drop_eq_getElem_cons hlt]; congr 1; rw [List.getElem?_eq_getElem hlt] at hb; injection hb
        rw [hdr] at HE
        have HE := hid' HE.out
        unfold rankB at HE
        clear hc hb hdr
        by_cases hle : kk ≤ b.2
        · rw [if_pos hle] at HE
          go_wp2
          go_ret2
          exact ⟨by rw [HE.out]; rfl, bel_alloc hB _⟩
        · rw [if_neg hle] at HE
          obtain ⟨k2, hk2e⟩ : ∃ k2, k2 = kk - b.2 := ⟨_, rfl⟩
          have z1 : (kk : Int) - (b.2 : Int) = (k2 : Int) := by omega
          rw [← hk2e] at HE
          have hk3 : 1 ≤ k2 := by omega
          clear hk2e
          go_wp2
          go_roundw
          case rel => exact ⟨i + 1, k2, by go_num, by first | rfl | (congr 1), by omega, hk3, by omega, bel_alloc hB _, HE.out⟩
          case measure => simp [intOf]; omega
      · rw [List.drop_eq_nil_of_le (by omega)] at HE
        have HE := hid' HE.out
        unfold rankB at HE
        go_wp2
        go_ret2
        exact ⟨by rw [HE.out]; rfl, hB⟩
end Go.Proofs.YtockkjhciojgbaaGreatDoor
/- HistB -/
/- Adding to and removing from a row of bins, the percent. No condition. -/
namespace Go.Proofs.YtockkjhciojgbaaGreatDoor
set_option maxRecDepth 100000
set_option linter.unusedSimpArgs false
open Go.RowKit
set_option linter.unusedVariables false

theorem posB_le (n : Int) : ∀ bs : List (Int × Nat), posB n bs ≤ bs.length
  | [] => Nat.le_refl _
  | b :: bs => by rw [posB]; split; simpa using posB_le n bs; exact Nat.zero_le _
theorem isB_at {n : Int} : ∀ {bs : List (Int × Nat)}, isB n bs = true → ∃ k, bs[posB n bs]? = some (n, k) ∧ addB n bs = bs.set (posB n bs) (n, k + 1) ∧ remB n bs = if k = 1 then bs.take (posB n bs) ++ bs.drop (posB n bs + 1) else bs.set (posB n bs) (n, k - 1)
  | [], h => by cases h
  | b :: bs, h => by
    rw [isB] at h
    split at h
    · rename_i hlt
      obtain ⟨k, h1, h2, h3⟩ := isB_at h
      refine ⟨k, ?_, ?_, ?_⟩
      · rw [posB, if_pos hlt]; simpa using h1
      · rw [posB, if_pos hlt, addB, if_pos hlt, h2]; rfl
      · rw [posB, if_pos hlt, remB, if_pos hlt, h3]; split <;> rfl
    · rename_i hlt
      have he : b.1 = n := by simpa using h
      refine ⟨b.2, ?_, ?_, ?_⟩
      · rw [posB, if_neg hlt, ← he]; rfl
      · rw [posB, if_neg hlt, addB, if_neg hlt, if_pos he, he]; rfl
      · rw [posB, if_neg hlt, remB, if_neg hlt, if_pos he, he]; split <;> rfl
theorem isB_not {n : Int} : ∀ {bs : List (Int × Nat)}, isB n bs = false → addB n bs = (bs.take (posB n bs) ++ (n, 0) :: bs.drop (posB n bs)).set (posB n bs) (n, 1) ∧ remB n bs = bs
  | [], h => ⟨rfl, rfl⟩
  | b :: bs, h => by
    rw [isB] at h
    split at h
    · rename_i hlt
      obtain ⟨h1, h2⟩ := isB_not h
      refine ⟨?_, ?_⟩
      · rw [posB, if_pos hlt, addB, if_pos hlt, h1]; rfl
      · rw [remB, if_pos hlt, h2]
    · rename_i hlt
      have he : ¬ b.1 = n := by simpa using h
      refine ⟨?_, ?_⟩
      · rw [posB, if_neg hlt, addB, if_neg hlt, if_neg he]; rfl
      · rw [remB, if_neg hlt, if_neg he]
theorem ins_get (bs : List (Int × Nat)) (p : Nat) (x : Int × Nat) (h : p ≤ bs.length) : (bs.take p ++ x :: bs.drop p)[p]? = some x := by
  rw [List.getElem?_append_right (by simp; omega), List.length_take, Nat.min_eq_left h, Nat.sub_self]; rfl
theorem binC_set : ∀ (bs : List (Int × Nat)) (i : Nat) (a : Int) (m k : Nat), bs[i]? = some (a, k) → (binC bs).set (i * 2 + 1) (.int .i64 (m : Int)) = binC (bs.set i (a, m))
  | [], i, a, m, k, h => by simp at h
  | b :: bs, 0, a, m, k, h => by simp at h; subst h; rfl
  | b :: bs, i + 1, a, m, k, h => by
    rw [show (i + 1) * 2 + 1 = i * 2 + 1 + 1 + 1 by omega]
    simp only [binC, List.set_cons_succ]
    rw [binC_set bs i a m k (by simpa using h)]
theorem own_setB {w : World} {B g c : Nat} {bs : List (Int × Nat)} (h : w.ownsRow B 273 2 (.slice (some ⟨g, 0, none⟩) bs.length c) bs.length (binC bs)) {i : Nat} {a : Int} {k : Nat} (hi : bs[i]? = some (a, k)) (m : Nat) :
    (w.setCell ⟨g, i * 2 + 1, none⟩ (.int .i64 (m : Int))).ownsRow B 273 2 (.slice (some ⟨g, 0, none⟩) bs.length c) bs.length (binC (bs.set i (a, m))) := by
  have hil := (List.getElem?_eq_some_iff.1 hi).1
  rcases h.2 with ⟨h0, _⟩ | ⟨g', cap, cur, hv, hb, hh, h1, h2, h3, h4⟩
  · cases h0
  · injection hv with e1 e2 e3
    injection e1 with e1; injection e1 with e1
    subst e1 e3
    refine ⟨by rw [binC_len, List.length_set], .inr ⟨g, c, cur.setIfInBounds (i * 2 + 1) (.int .i64 (m : Int)), rfl, hb, Blk.set hh _ _, h1, h2, by simpa using h3, ?_⟩⟩
    rw [Array.toList_setIfInBounds, List.take_set, h4, binC_set _ _ _ _ _ hi]
theorem own_cell {w : World} {B : Nat} {v : Value} {bs : List (Int × Nat)} (h : w.ownsRow B 273 2 v bs.length (binC bs)) {i : Nat} {b : Int × Nat} (hi : bs[i]? = some b) :
    ∃ gb c, v = .slice (some ⟨gb, 0, none⟩) bs.length c ∧ B ≤ gb ∧ gb < w.heap.size ∧ (∃ cur, Blk w gb 273 cur) ∧ w.cell? ⟨gb, i * 2 + 1, none⟩ = some (.int .i64 (b.2 : Int)) ∧ w.frozen? ⟨gb, i * 2 + 1, none⟩ = false ∧ i < bs.length := by
  have hil := (List.getElem?_eq_some_iff.1 hi).1
  rcases h.2 with ⟨h0, h1⟩ | ⟨gb, cap, cur, hv, hb, hh, h1, h2, h3, h4⟩
  · omega
  · have hB : Blk w gb 273 cur := hh
    refine ⟨gb, cap, hv, hb, hB.lt, ⟨cur, hB⟩, ?_, hB.frozen _, hil⟩
    have hg := (binC_get hi).2
    rw [← h4, List.getElem?_take] at hg
    split at hg
    · rw [hB.cell]; simpa using hg
    · cases hg

def pcR (bs : List (Int × Nat)) (p : Int) (all : Int) : Int × Bool := rkR bs (max ((p * all + 99) / 100) 1)
theorem hist_Percent (g o B : Nat) (v : Value) (bs : List (Int × Nat)) (p : Int) (all : Nat) (w : World) (hc : w.cell? ⟨g, o, none⟩ = some v) (hca : w.cell? ⟨g, o + 1, none⟩ = some (.int .i64 (all : Int))) (HO : w.ownsRow B 273 2 v bs.length (binC bs))
    (hn : bs.length ≤ 100000) (hsz : ∀ b ∈ bs, b.2 ≤ 100000) (hp0 : 0 ≤ p) (hp1 : p ≤ 100) (hall : all ≤ 100000) :
    Calls Tryz.prog 216 #[.pointer (some ⟨g, o, none⟩), .int .i64 p] w fun e w' => e = .returned (.tuple #[.int .i64 (pcR bs p all).1, .bool (pcR bs p all).2]) ∧ Below w.heap.size w w' := by
  obtain ⟨P, hP⟩ : ∃ P : Nat, (P : Int) = p * (all : Int) := ⟨(p * all).toNat, Int.toNat_of_nonneg (Int.mul_nonneg hp0 (by omega))⟩
  have hPb : P ≤ 10000000 := by
    have h1 : p * (all : Int) ≤ 100 * 100000 := Int.mul_le_mul hp1 (by omega) (by omega) (by omega)
    omega
  obtain ⟨K, hK⟩ : ∃ K : Int, K = max (((P : Int) + 99) / 100) 1 := ⟨_, rfl⟩
  have hKI : I64 K := by unfold I64; omega
  have H := hid' (fun w hc HO => hist_Rank g o B v bs K w hc HO hn hKI hsz)
  have hR : pcR bs p all = rkR bs K := by unfold pcR; rw [hK, hP]
  rw [hR]
  have HO := hid' HO
  have hPI := hP.symm
  have hq : Int.tdiv ((P : Int) + 99) 100 = ((P : Int) + 99) / 100 := Int.tdiv_eq_ediv_of_nonneg (by omega)
  have HK := hid' hK
  clear hP hR hK
  go_enter Tryz.func216, Tryz.ntmps216
  go_wp2_with (go_at_call 221; rw [← HK.out]; refine (H.out _ hc HO.out).mono ?_; rintro e w2 ⟨rfl, hB2⟩)
  go_ret2
  exact ⟨rfl, hB2⟩

theorem setIfInBounds_self {α : Type} {cs : Array α} {o : Nat} {v : α} (h : cs[o]? = some v) : cs.setIfInBounds o v = cs := by
  apply Array.ext_getElem?
  intro i
  rw [Array.getElem?_setIfInBounds]
  split
  · rename_i e; subst e; split
    · exact h.symm
    · rename_i hn; rw [(Array.getElem?_eq_some_iff.1 h).2.symm] at *; exact absurd (Array.getElem?_eq_some_iff.1 h).1 hn
  · rfl
/-- The struct of a Hist within a block: where its row and its sum stand, and what they tell. -/
def HistI (w : World) (g o : Nat) (T : TypeId) (cs : Array Value) (B : Nat) (v : Value) (bs : List (Int × Nat)) : Prop :=
  Blk w g T cs ∧ cs[o]? = some v ∧ cs[o + 1]? = some (.int .i64 (totB bs : Nat)) ∧ w.ownsRow B 273 2 v bs.length (binC bs) ∧ SortB bs ∧ totB bs ≤ 10000 ∧ B ≤ w.heap.size ∧ T ≠ 273
theorem totB_add (n : Int) (bs : List (Int × Nat)) : totB (addB n bs) = totB bs + 1 := by
  induction bs with
  | nil => rfl
  | cons b bs ih =>
    rw [addB]
    split
    · rw [totB_cons, totB_cons, ih]; omega
    · split
      · rw [totB_cons, totB_cons]; show b.2 + 1 + _ = _; omega
      · rw [totB_cons, totB_cons]; show 1 + _ = _; omega
theorem totB_rem (n : Int) : ∀ {bs : List (Int × Nat)}, SortB bs → isB n bs = true → totB (remB n bs) + 1 = totB bs
  | [], _, h => by cases h
  | b :: bs, hs, h => by
    have hb := hs.2 b List.mem_cons_self
    rw [isB] at h
    rw [remB]
    split at h
    · rename_i hlt
      rw [if_pos hlt, totB_cons, totB_cons, ← totB_rem n hs.tail h]; omega
    · rename_i hlt
      rw [if_neg hlt, if_pos (by simpa using h)]
      split
      · rw [totB_cons]; omega
      · rw [totB_cons, totB_cons]; show b.2 - 1 + _ + 1 = _; omega
theorem len_totB : ∀ {bs : List (Int × Nat)}, SortB bs → bs.length ≤ totB bs ∧ ∀ b ∈ bs, b.2 ≤ totB bs
  | [], _ => ⟨Nat.le_refl _, fun b hb => by cases hb⟩
  | b :: bs, hs => by
    have hb := hs.2 b List.mem_cons_self
    obtain ⟨h1, h2⟩ := len_totB hs.tail
    rw [totB_cons]
    refine ⟨by simp; omega, fun x hx => ?_⟩
    rcases List.mem_cons.1 hx with e | e
    · rw [e]; omega
    · have := h2 x e; omega
theorem HistI.rank {w : World} {g o B : Nat} {T : TypeId} {cs : Array Value} {v : Value} {bs : List (Int × Nat)} (h : HistI w g o T cs B v bs) (k : Int) (hk : I64 k) :
    Calls Tryz.prog 221 #[.pointer (some ⟨g, o, none⟩), .int .i64 k] w fun e w' => e = .returned (.tuple #[.int .i64 (rkR bs k).1, .bool (rkR bs k).2]) ∧ Below w.heap.size w w' := by
  obtain ⟨h1, h2, h3, h4, h5, h6, h7⟩ := h
  obtain ⟨l1, l2⟩ := len_totB h5
  exact hist_Rank g o B v bs k w (by rw [h1.cell, h2]) h4 (by omega) hk (fun b hb => by have := l2 b hb; omega)
theorem HistI.percent {w : World} {g o B : Nat} {T : TypeId} {cs : Array Value} {v : Value} {bs : List (Int × Nat)} (h : HistI w g o T cs B v bs) (p : Int) (hp0 : 0 ≤ p) (hp1 : p ≤ 100) :
    Calls Tryz.prog 216 #[.pointer (some ⟨g, o, none⟩), .int .i64 p] w fun e w' => e = .returned (.tuple #[.int .i64 (pcR bs p (totB bs : Nat)).1, .bool (pcR bs p (totB bs : Nat)).2]) ∧ Below w.heap.size w w' := by
  obtain ⟨h1, h2, h3, h4, h5, h6, h7⟩ := h
  obtain ⟨l1, l2⟩ := len_totB h5
  exact hist_Percent g o B v bs p (totB bs) w (by rw [h1.cell, h2]) (by rw [h1.cell, h3]) h4 (by omega) (fun b hb => by have := l2 b hb; omega) hp0 hp1 (by omega)
theorem HistI.below {w w' : World} {g o B : Nat} {T : TypeId} {cs : Array Value} {v : Value} {bs : List (Int × Nat)} (h : HistI w g o T cs B v bs) (hb : Below w.heap.size w w') : HistI w' g o T cs B v bs := by
  obtain ⟨h1, h2, h3, h4, h5, h6, h7, h8⟩ := h
  exact ⟨h1.below hb, h2, h3, own_below h4 hb, h5, h6, Nat.le_trans h7 hb.size, h8⟩
theorem HistI.ne {w : World} {g o B : Nat} {T : TypeId} {cs : Array Value} {v : Value} {bs : List (Int × Nat)} (h : HistI w g o T cs B v bs) : v.ownBlock ≠ some g := own_ne' h.2.2.2.1 h.1 (fun e => h.2.2.2.2.2.2.2 e.symm)

set_option maxHeartbeats 4000000 in
theorem HistI.add {w : World} {g o B : Nat} {T : TypeId} {cs : Array Value} {v : Value} {bs : List (Int × Nat)} (h : HistI w g o T cs B v bs) (n : Int) (hb : totB bs < 10000) :
    Calls Tryz.prog 214 #[.pointer (some ⟨g, o, none⟩), .int .i64 n] w fun e w' => e = .returned (.tuple #[]) ∧ ∃ v', HistI w' g o T ((cs.setIfInBounds o v').setIfInBounds (o + 1) (.int .i64 (totB (addB n bs) : Nat))) B v' (addB n bs) ∧
      Mod (fun k => k = g ∨ v.ownBlock = some k) w w' ∧ (v'.ownBlock = v.ownBlock ∨ ∃ b, v'.ownBlock = some b ∧ w.heap.size ≤ b) := by
  have hne := h.ne
  obtain ⟨h1, h2, h3, h4, h5, h6, h7, h8⟩ := h
  obtain ⟨l1, l2⟩ := len_totB h5
  have ht := totB_add n bs
  have hsz : bs.length ≤ 100000 := by omega
  have hc : w.cell? ⟨g, o, none⟩ = some v := by rw [h1.cell, h2]
  have hc1 : w.cell? ⟨g, o + 1, none⟩ = some (.int .i64 (totB bs : Nat)) := by rw [h1.cell, h3]
  have HF := hid' (hist_find g o B v bs n w hc h4 h5 hsz)
  have HW := hid' (And.intro h1 (And.intro h4 (And.intro h7 (And.intro h2 h3))))
  have HS := hid' (addB_sort n h5)
  cases hi : isB n bs
  · obtain ⟨ha, -⟩ := isB_not hi
    rw [hi] at HF
    have HA := hid' ha
    have HT := hid' ht
    have hpl := posB_le n bs
    obtain ⟨p, hp⟩ : ∃ p, p = posB n bs := ⟨_, rfl⟩
    rw [← hp] at HF HA hpl
    obtain ⟨A, cc, rfl, -, -, -⟩ := own_rd h4
    obtain ⟨bs1, hbs1⟩ : ∃ bs1, bs1 = bs.take p ++ (n, 0) :: bs.drop p := ⟨_, rfl⟩
    have hlen1 : bs1.length = bs.length + 1 := by rw [hbs1]; simp; omega
    have hget := ins_get bs p (n, 0) hpl
    rw [← hbs1] at HA hget
    have HK := hid' hget
    have HBS := hid' hbs1
    obtain ⟨t1, ht1⟩ : ∃ t1 : Nat, t1 = totB bs + 1 := ⟨_, rfl⟩
    have y2 : (totB bs : Int) + 1 = (t1 : Int) := by omega
    have y4 : IntKind.i64.wrap (t1 : Int) = (t1 : Int) := by rw [IntKind.wrap_i64]; omega
    rw [← ht1] at HT
    have HTT := hid' ht1
    have HLN := hid' hlen1
    clear hp hi ha ht h2 h3 h5 h7 l2 hc hc1 h1 h4 hbs1 hget ht1 hlen1
    go_enter Tryz.func214, Tryz.ntmps214
    go_wp2_with (first
      | (go_at_call 218; refine (HF.out).mono ?_; rintro e w2 ⟨rfl, hB2⟩; have HW2 := hid' (And.intro (HW.out.1.below hB2) (own_below HW.out.2.1 hB2)); have d0 : w2.cell? ⟨g, o, none⟩ = some (.slice A bs.length cc) := (by rw [HW2.out.1.cell, HW.out.2.2.2.1]))
      | (go_at_call 220; refine (slices_InsertB B w2.heap.size p (.slice A bs.length cc) bs (n, 0) _ ((own_below HW2.out.2 (bel_alloc (bel_refl w2) _))) (Blk.new_ w2 _ _) ?_ hpl hsz ?_).mono ?_
         · intro hx; have := own_lt' HW2.out.2 _ hx; omega
         · have := HW.out.2.2.1; have := hB2.size; simp; omega
         rintro e w3 ⟨v3, rfl, hO3, hM3, hv3⟩
         rw [← HBS.out, ← HLN.out] at hO3
         have HW3 := hid' (And.intro ((HW2.out.1.alloc (.cells #[.int .i64 n, .int .i64 0] 273)).mod hM3 hne) hO3)
         obtain ⟨gb, c, rfl, hBg, hgl, -, d2, f2, hpl3⟩ := own_cell hO3 HK.out
         have hgg' : gb ≠ g := fun e => own_ne' HW3.out.2 HW3.out.1 (fun e => h8 e.symm) (by rw [e]; rfl)
         have hgg : g ≠ gb := Ne.symm hgg'
         have d1 : w3.cell? ⟨g, o + 1, none⟩ = some (.int .i64 (totB bs : Nat)) := by rw [HW3.out.1.cell, HW.out.2.2.2.2]
         have d0 : (w3.cell? ⟨g, o, none⟩) = some (.slice A bs.length cc) := by rw [HW3.out.1.cell, HW.out.2.2.2.1]
         have f0 := HW3.out.1.frozen o
         have f1 := HW3.out.1.frozen (o + 1)
         simp only at d2
         have d2 : w3.cell? ⟨gb, p * 2 + 1, none⟩ = some (.int .i64 0) := d2
         have HM3 := hid' (And.intro hM3 hv3)
         have HBG := hid' hBg
         clear hO3 hM3 hv3 hgl hBg))
    go_end0
    have hsz0 := (Array.getElem?_eq_some_iff.1 HW.out.2.2.2.1).1
    have hsz1 := (Array.getElem?_eq_some_iff.1 HW.out.2.2.2.2).1
    have hgown : (Value.slice (some ⟨gb, 0, none⟩) bs1.length c).ownBlock ≠ some g := own_ne' HW3.out.2 HW3.out.1 (fun e => h8 e.symm)
    refine ⟨rfl, .slice (some ⟨gb, 0, none⟩) bs1.length c, ⟨?_, ?_, ?_, ?_, HS.out, ?_, ?_, h8⟩, ?_, ?_⟩
    · rw [HT.out]
      exact (((HW3.out.1.set o _).far (p := ⟨gb, p * 2 + 1, none⟩) hgg _).set _ _)
    · rw [Array.getElem?_setIfInBounds, if_neg (by omega), Array.getElem?_setIfInBounds, if_pos rfl, if_pos hsz0]
    · rw [Array.getElem?_setIfInBounds, if_pos rfl, if_pos (by rw [Array.size_setIfInBounds]; exact hsz1)]
    · rw [HA.out]
      have h0 := own_set' HW3.out.2 (p := ⟨g, o, none⟩) hgown (.slice (some ⟨gb, 0, none⟩) bs1.length c)
      have h1 := own_set' (own_setB h0 HK.out 1) (p := ⟨g, o + 1, none⟩) hgown (.int .i64 (t1 : Int))
      rw [List.length_set]; exact h1
    · rw [HT.out]; have := HTT.out; omega
    · have h1 := HW.out.2.2.1; have h2 := hB2.size; have h3 := HM3.out.1.size; simp at h3 ⊢; omega
    · have hm2 : Mod (fun k => k = g ∨ (Value.slice A bs.length cc).ownBlock = some k) w (w2.alloc (.cells #[.int .i64 n, .int .i64 0] 273)) := (Mod.of_below hB2).alloc _
      have hm3 := hm2.then_ HM3.out.1 (fun i _ h => .inr h)
      refine ((hm3.setCell (p := ⟨g, o, none⟩) (fun _ => .inl rfl) _).setCell (p := ⟨gb, p * 2 + 1, none⟩) ?_ _).setCell (p := ⟨g, o + 1, none⟩) (fun _ => .inl rfl) _
      intro hlt
      rcases HM3.out.2 with h | ⟨b, h, hle⟩
      · exact .inr (by rw [← h]; rfl)
      · exfalso
        have hb2 := hB2.size
        have h : gb = b := by simpa [Value.ownBlock] using h
        simp at hle hlt
        omega
    · rcases HM3.out.2 with h | ⟨b, h, hle⟩
      · exact .inl h
      · exact .inr ⟨b, h, by have hb2 := hB2.size; simp at hle; omega⟩
  · obtain ⟨k, hk, ha, -⟩ := isB_at hi
    rw [hi] at HF
    have HA := hid' ha
    have HT := hid' ht
    have hkb := l2 _ (List.mem_of_getElem? hk)
    simp only at hkb
    obtain ⟨p, hp⟩ : ∃ p, p = posB n bs := ⟨_, rfl⟩
    rw [← hp] at HF HA hk
    have HK := hid' hk
    obtain ⟨gb, c, rfl, hBg, hgl, ⟨cur, hcur⟩, hcc, hff, hpl⟩ := own_cell h4 hk
    have hgg : g ≠ gb := fun e => hne (by rw [e]; rfl)
    have hgg' : gb ≠ g := Ne.symm hgg
    have HGG := hid' hgl
    obtain ⟨k1, hk1⟩ : ∃ k1 : Nat, k1 = k + 1 := ⟨_, rfl⟩
    obtain ⟨t1, ht1⟩ : ∃ t1 : Nat, t1 = totB bs + 1 := ⟨_, rfl⟩
    have y1 : (k : Int) + 1 = (k1 : Int) := by omega
    have y2 : (totB bs : Int) + 1 = (t1 : Int) := by omega
    have y3 : IntKind.i64.wrap (k1 : Int) = (k1 : Int) := by rw [IntKind.wrap_i64]; omega
    have y4 : IntKind.i64.wrap (t1 : Int) = (t1 : Int) := by rw [IntKind.wrap_i64]; omega
    rw [← hk1] at HA
    rw [← ht1] at HT
    have HTT := hid' ht1
    clear hk1 ht1
    simp only at hcc
    clear hp hi ha ht h2 h3 h5 h7 l2 hk hc hc1 hcc hff hcur hgl h1 h4
    go_enter Tryz.func214, Tryz.ntmps214
    go_wp2_with (go_at_call 218; refine (HF.out).mono ?_; rintro e w2 ⟨rfl, hB2⟩; have HW2 := hid' (And.intro (HW.out.1.below hB2) (own_below HW.out.2.1 hB2)); have d0 : w2.cell? ⟨g, o, none⟩ = some (.slice (some ⟨gb, 0, none⟩) bs.length c) := (by rw [HW2.out.1.cell, HW.out.2.2.2.1]); have d1 : w2.cell? ⟨g, o + 1, none⟩ = some (.int .i64 (totB bs : Nat)) := (by rw [HW2.out.1.cell, HW.out.2.2.2.2]); have f1 := HW2.out.1.frozen (o + 1); obtain ⟨gb', c', hve, -, -, ⟨cur, hcur⟩, d2, f2, -⟩ := own_cell HW2.out.2 HK.out; injection hve with hve _ hce; injection hve with hve; injection hve with hve; subst hve hce; simp only at d2)
    go_end0
    refine ⟨rfl, .slice (some ⟨gb, 0, none⟩) bs.length c, ⟨?_, ?_, ?_, ?_, HS.out, ?_, ?_, h8⟩, ?_, .inl rfl⟩
    · rw [setIfInBounds_self HW.out.2.2.2.1, HT.out]
      exact (HW2.out.1.far (p := ⟨gb, p * 2 + 1, none⟩) hgg _).set _ _
    · rw [setIfInBounds_self HW.out.2.2.2.1, Array.getElem?_setIfInBounds, if_neg (by omega)]; exact HW.out.2.2.2.1
    · rw [Array.getElem?_setIfInBounds, if_pos rfl, if_pos (by rw [Array.size_setIfInBounds]; exact (Array.getElem?_eq_some_iff.1 HW.out.2.2.2.2).1)]
    · rw [HA.out]
      have := own_set' (own_setB HW2.out.2 HK.out k1) (p := ⟨g, o + 1, none⟩) hne (.int .i64 (t1 : Int))
      rw [List.length_set]; exact this
    · rw [HT.out]; have := HTT.out; omega
    · simp; exact Nat.le_trans HW.out.2.2.1 hB2.size
    · refine (Mod.of_below hB2).then_ ((Mod.refl (fun k => k = g ∨ (Value.slice (some ⟨gb, 0, none⟩) bs.length c).ownBlock = some k) w2).setCell (p := ⟨gb, p * 2 + 1, none⟩) (fun _ => .inr rfl) _ |>.setCell (p := ⟨g, o + 1, none⟩) (fun _ => .inl rfl) _) (fun i _ h => h)
end Go.Proofs.YtockkjhciojgbaaGreatDoor
/- HistC -/
/- Removing from a row of bins. No condition. -/
namespace Go.Proofs.YtockkjhciojgbaaGreatDoor
set_option maxRecDepth 100000
set_option linter.unusedSimpArgs false
open Go.RowKit
set_option linter.unusedVariables false

theorem set_take (l : List (Int × Nat)) (i : Nat) (a : Int × Nat) : (l.set i a).take i = l.take i := by
  apply List.ext_getElem?
  intro j
  rw [List.getElem?_take, List.getElem?_take]
  split
  · rw [List.getElem?_set_ne (by omega)]
  · rfl
theorem set_drop (l : List (Int × Nat)) (i : Nat) (a : Int × Nat) : (l.set i a).drop (i + 1) = l.drop (i + 1) := by
  apply List.ext_getElem?
  intro j
  rw [List.getElem?_drop, List.getElem?_drop, List.getElem?_set_ne (by omega)]
set_option maxHeartbeats 4000000 in
theorem HistI.remove {w : World} {g o B : Nat} {T : TypeId} {cs : Array Value} {v : Value} {bs : List (Int × Nat)} (h : HistI w g o T cs B v bs) (n : Int) :
    Calls Tryz.prog 213 #[.pointer (some ⟨g, o, none⟩), .int .i64 n] w fun e w' => e = .returned (.bool (isB n bs)) ∧ ∃ v', HistI w' g o T ((cs.setIfInBounds o v').setIfInBounds (o + 1) (.int .i64 (totB (remB n bs) : Nat))) B v' (remB n bs) ∧
      Mod (fun k => k = g ∨ v.ownBlock = some k) w w' ∧ v'.ownBlock = v.ownBlock := by
  have hne := h.ne
  have HI := hid' h
  obtain ⟨h1, h2, h3, h4, h5, h6, h7, h8⟩ := h
  obtain ⟨l1, l2⟩ := len_totB h5
  have hsz : bs.length ≤ 100000 := by omega
  have hc : w.cell? ⟨g, o, none⟩ = some v := by rw [h1.cell, h2]
  have hc1 : w.cell? ⟨g, o + 1, none⟩ = some (.int .i64 (totB bs : Nat)) := by rw [h1.cell, h3]
  have HF := hid' (hist_find g o B v bs n w hc h4 h5 hsz)
  have HW := hid' (And.intro h1 (And.intro h4 (And.intro h7 (And.intro h2 h3))))
  have HS := hid' (remB_sort n h5)
  cases hi : isB n bs
  · obtain ⟨-, ha⟩ := isB_not hi
    rw [hi] at HF
    have HA := hid' ha
    clear hi ha h1 h2 h3 h4 h5 h7 l2 hc hc1
    go_enter Tryz.func213, Tryz.ntmps213
    go_wp2_with (go_at_call 218; refine (HF.out).mono ?_; rintro e w2 ⟨rfl, hB2⟩)
    go_ret
    refine ⟨rfl, v, ?_, (Mod.of_below hB2), rfl⟩
    rw [HA.out, setIfInBounds_self HW.out.2.2.2.1, setIfInBounds_self HW.out.2.2.2.2]
    exact HI.out.below hB2
  · have ht := totB_rem n h5 hi
    obtain ⟨k, hk, -, ha⟩ := isB_at hi
    rw [hi] at HF
    have hkb := l2 _ (List.mem_of_getElem? hk)
    have hkp := h5.2 _ (List.mem_of_getElem? hk)
    simp only at hkb hkp
    obtain ⟨p, hp⟩ : ∃ p, p = posB n bs := ⟨_, rfl⟩
    rw [← hp] at HF ha hk
    have HK := hid' hk
    obtain ⟨gb, c, rfl, hBg, hgl, ⟨cur, hcur⟩, hcc, hff, hpl⟩ := own_cell h4 hk
    have hgg : g ≠ gb := fun e => hne (by rw [e]; rfl)
    have hgg' : gb ≠ g := Ne.symm hgg
    have HGG := hid' hgl
    obtain ⟨t1, ht1⟩ : ∃ t1 : Nat, t1 = totB (remB n bs) := ⟨_, rfl⟩
    rw [← ht1] at ht
    have y2 : (totB bs : Int) - 1 = (t1 : Int) := by omega
    have y4 : IntKind.i64.wrap (t1 : Int) = (t1 : Int) := by rw [IntKind.wrap_i64]; omega
    have HT := hid' ht1
    have HTB := hid' (show t1 ≤ 10000 by omega)
    have hsz0 := (Array.getElem?_eq_some_iff.1 h2).1
    have hsz1 := (Array.getElem?_eq_some_iff.1 h3).1
    clear hp hi h2 h3 h5 h7 l2 hk hc hc1 hcc hff hcur hgl h1 h4 ht ht1
    by_cases hk1 : k = 1
    · rw [if_pos hk1] at ha
      subst hk1
      have HA := hid' ha
      clear ha
      go_enter Tryz.func213, Tryz.ntmps213
      go_wp2_with (first
        | (go_at_call 218; refine (HF.out).mono ?_; rintro e w2 ⟨rfl, hB2⟩; have HW2 := hid' (And.intro (HW.out.1.below hB2) (own_below HW.out.2.1 hB2)); have d0 : w2.cell? ⟨g, o, none⟩ = some (.slice (some ⟨gb, 0, none⟩) bs.length c) := (by rw [HW2.out.1.cell, HW.out.2.2.2.1]); obtain ⟨gb', c', hve, -, -, -, d2, f2, -⟩ := own_cell HW2.out.2 HK.out; injection hve with hve _ hce; injection hve with hve; injection hve with hve; subst hve hce; have d2 : w2.cell? ⟨gb, p * 2 + 1, none⟩ = some (.int .i64 1) := d2)
        | (go_at_call 219
           have hdel := slices_DeleteB B p (.slice (some ⟨gb, 0, none⟩) bs.length c) (bs.set p (n, 0)) (w2.setCell ⟨gb, p * 2 + 1, none⟩ (.int .i64 0)) (by rw [List.length_set]; exact own_setB HW2.out.2 HK.out 0) (by rw [List.length_set]; exact hpl) (by rw [List.length_set]; exact hsz)
           refine hdel.mono ?_
           rintro e w3 ⟨v3, rfl, hO3, hM3, hv3⟩
           rw [List.length_set, set_take, set_drop, ← HA.out] at hO3
           have HW3 := hid' (And.intro (Blk.mod (HW2.out.1.far (p := ⟨gb, p * 2 + 1, none⟩) hgg (.int .i64 0)) hM3 hne) hO3)
           have d1 : w3.cell? ⟨g, o + 1, none⟩ = some (.int .i64 (totB bs : Nat)) := by rw [HW3.out.1.cell, HW.out.2.2.2.2]
           have d0 : (w3.cell? ⟨g, o, none⟩) = some (.slice (some ⟨gb, 0, none⟩) bs.length c) := by rw [HW3.out.1.cell, HW.out.2.2.2.1]
           have f0 := HW3.out.1.frozen o
           have f1 := HW3.out.1.frozen (o + 1)
           obtain ⟨A3, c3, rfl, -, -, -⟩ := own_rd hO3
           have HM3 := hid' (And.intro hM3 hv3)
           clear hO3 hM3 hv3 hdel))
      go_ret
      have hrl : (remB n bs).length = bs.length - 1 := by rw [HA.out]; simp; omega
      have hgown : (Value.slice A3 (bs.length - 1) c3).ownBlock ≠ some g := own_ne' HW3.out.2 HW3.out.1 (fun e => h8 e.symm)
      refine ⟨rfl, .slice A3 (bs.length - 1) c3, ⟨?_, ?_, ?_, ?_, HS.out, ?_, ?_, h8⟩, ?_, HM3.out.2⟩
      · rw [← HT.out]
        exact (HW3.out.1.set o _).set _ _
      · rw [Array.getElem?_setIfInBounds, if_neg (by omega), Array.getElem?_setIfInBounds, if_pos rfl, if_pos hsz0]
      · rw [Array.getElem?_setIfInBounds, if_pos rfl, if_pos (by rw [Array.size_setIfInBounds]; exact hsz1)]
      · rw [hrl]
        have h0 := own_set' HW3.out.2 (p := ⟨g, o, none⟩) hgown (.slice A3 (bs.length - 1) c3)
        exact own_set' h0 (p := ⟨g, o + 1, none⟩) hgown (.int .i64 (t1 : Int))
      · rw [← HT.out]; exact HTB.out
      · have h1 := HW.out.2.2.1; have h2 := hB2.size; have h3 := HM3.out.1.size; simp at h3 ⊢; omega
      · have hm2 : Mod (fun k => k = g ∨ (Value.slice (some ⟨gb, 0, none⟩) bs.length c).ownBlock = some k) w (w2.setCell ⟨gb, p * 2 + 1, none⟩ (.int .i64 0)) := (Mod.of_below hB2).setCell (fun _ => .inr rfl) _
        have hm3 := hm2.then_ HM3.out.1 (fun i _ h => .inr h)
        exact (hm3.setCell (p := ⟨g, o, none⟩) (fun _ => .inl rfl) _).setCell (p := ⟨g, o + 1, none⟩) (fun _ => .inl rfl) _
    · rw [if_neg hk1] at ha
      have HA := hid' ha
      obtain ⟨k1, hk1e⟩ : ∃ k1 : Nat, k1 = k - 1 := ⟨_, rfl⟩
      have y1 : (k : Int) - 1 = (k1 : Int) := by omega
      have y3 : IntKind.i64.wrap (k1 : Int) = (k1 : Int) := by rw [IntKind.wrap_i64]; omega
      have y5 : ¬ (k1 : Int) = 0 := by omega
      rw [← hk1e] at HA
      clear ha hk1e hk1
      go_enter Tryz.func213, Tryz.ntmps213
      go_wp2_with (go_at_call 218; refine (HF.out).mono ?_; rintro e w2 ⟨rfl, hB2⟩; have HW2 := hid' (And.intro (HW.out.1.below hB2) (own_below HW.out.2.1 hB2)); have d0 : w2.cell? ⟨g, o, none⟩ = some (.slice (some ⟨gb, 0, none⟩) bs.length c) := (by rw [HW2.out.1.cell, HW.out.2.2.2.1]); have d1 : w2.cell? ⟨g, o + 1, none⟩ = some (.int .i64 (totB bs : Nat)) := (by rw [HW2.out.1.cell, HW.out.2.2.2.2]); have f1 := HW2.out.1.frozen (o + 1); obtain ⟨gb', c', hve, -, -, -, d2, f2, -⟩ := own_cell HW2.out.2 HK.out; injection hve with hve _ hce; injection hve with hve; injection hve with hve; subst hve hce; simp only at d2)
      all_goals first | (exfalso; omega) | skip
      go_ret
      refine ⟨rfl, .slice (some ⟨gb, 0, none⟩) bs.length c, ⟨?_, ?_, ?_, ?_, HS.out, ?_, ?_, h8⟩, ?_, rfl⟩
      · rw [setIfInBounds_self HW.out.2.2.2.1, ← HT.out]
        exact (HW2.out.1.far (p := ⟨gb, p * 2 + 1, none⟩) hgg _).set _ _
      · rw [setIfInBounds_self HW.out.2.2.2.1, Array.getElem?_setIfInBounds, if_neg (by omega)]; exact HW.out.2.2.2.1
      · rw [Array.getElem?_setIfInBounds, if_pos rfl, if_pos (by rw [Array.size_setIfInBounds]; exact hsz1)]
      · rw [HA.out]
        have := own_set' (own_setB HW2.out.2 HK.out k1) (p := ⟨g, o + 1, none⟩) hne (.int .i64 (t1 : Int))
        rw [List.length_set]; exact this
      · rw [← HT.out]; exact HTB.out
      · simp; exact Nat.le_trans HW.out.2.2.1 hB2.size
      · refine (Mod.of_below hB2).then_ ((Mod.refl (fun k => k = g ∨ (Value.slice (some ⟨gb, 0, none⟩) bs.length c).ownBlock = some k) w2).setCell (p := ⟨gb, p * 2 + 1, none⟩) (fun _ => .inr rfl) _ |>.setCell (p := ⟨g, o + 1, none⟩) (fun _ => .inl rfl) _) (fun i _ h => h)
end Go.Proofs.YtockkjhciojgbaaGreatDoor
/- Ref08 -/
/- The reference of layer 8 (hist), walked. No condition. -/
namespace Go.Proofs.YtockkjhciojgbaaGreatDoor
set_option maxRecDepth 100000
set_option linter.unusedSimpArgs false
open Go.RowKit
set_option linter.unusedVariables false

theorem belowL_snoc (l : List Int) (x n : Int) : belowL (l ++ [x]) n = belowL l n + if x ≤ n then 1 else 0 := by
  unfold belowL; rw [List.countP_append, List.countP_singleton]; simp
theorem belowL_le (l : List Int) (n : Int) : belowL l n ≤ l.length := List.countP_le_length
def leastP (l : List Int) (many : Int) : Int → Bool := fun x => decide (many ≤ (belowL l x : Int))
def percP (l : List Int) (p : Int) : Int → Bool := fun x => decide (p * (l.length : Int) ≤ (belowL l x : Int) * 100)
def without (l : List Int) (n : Int) : List Int := l.erase n
theorem erase_at {l : List Int} {n : Int} {k : Nat} (h1 : ∀ j x, j < k → l[j]? = some x → x ≠ n) (h2 : l[k]? = some n) : l.erase n = l.take k ++ l.drop (k + 1) := by
  induction l generalizing k with
  | nil => simp at h2
  | cons a l ih =>
    cases k with
    | zero => simp at h2; subst h2; simp
    | succ k =>
      have ha := h1 0 a (by omega) rfl
      rw [List.erase_cons_tail (by simpa using ha), ih (k := k) (fun j x hj hx => h1 (j + 1) x (by omega) (by simpa using hx)) (by simpa using h2)]
      rfl
end Go.Proofs.YtockkjhciojgbaaGreatDoor
/- LawHist -/
/- The laws of layer 8 (hist), walked. No condition. -/
namespace Go.Proofs.YtockkjhciojgbaaGreatDoor
set_option maxRecDepth 100000
set_option linter.unusedSimpArgs false
open Go.RowKit
set_option linter.unusedVariables false

theorem HistI.mod {w w' : World} {g o B : Nat} {T : TypeId} {cs : Array Value} {v : Value} {bs : List (Int × Nat)} {S : Nat → Prop} (h : HistI w g o T cs B v bs) (hm : Mod S w w') (h1 : ¬ S g) (h2 : ∀ k, v.ownBlock = some k → ¬ S k) : HistI w' g o T cs B v bs := by
  obtain ⟨a1, a2, a3, a4, a5, a6, a7, a8⟩ := h
  exact ⟨a1.mod hm h1, a2, a3, own_mod a4 hm h2, a5, a6, Nat.le_trans a7 hm.size, a8⟩
theorem own_own_ne {w : World} {B B' : Nat} {e t : TypeId} {size size' n n' : Nat} {v v' : Value} {xs ys : List Value} (h : w.ownsRow B e size v n xs) (h' : w.ownsRow B' t size' v' n' ys) (hne : e ≠ t) (k : Nat) (hk : v.ownBlock = some k) : v'.ownBlock ≠ some k := by
  rcases h.2 with ⟨rfl, _⟩ | ⟨g, cap, cur, rfl, _, hh, _⟩
  · simp [Value.ownBlock] at hk
  · simp [Value.ownBlock] at hk; subst hk
    exact own_ne' h' (show Blk w g e cur from hh) (fun e => hne e.symm)
/-- A Hist of its own, and a row of whole numbers beside it. -/
def SH (w0 w : World) (g : Nat) (v : Value) (bs : List (Int × Nat)) (lv : Value) (l : List Int) : Prop :=
  Below w0.heap.size w0 w ∧ w0.heap.size ≤ g ∧ (∃ cs, HistI w g 0 193 cs w0.heap.size v bs) ∧ w.ownsRow w0.heap.size 3 1 lv l.length (l.map (.int .i64))
section
variable {w0 w : World} {g : Nat} {v : Value} {bs : List (Int × Nat)} {lv : Value} {l : List Int}
theorem SH.step {w' : World} {v' : Value} {bs' : List (Int × Nat)} {cs : Array Value} (h : SH w0 w g v bs lv l) (hi : HistI w' g 0 193 cs w0.heap.size v' bs') (hm : Mod (fun k => k = g ∨ v.ownBlock = some k) w w') : SH w0 w' g v' bs' lv l := by
  obtain ⟨h1, h2, ⟨cs0, h3⟩, h4⟩ := h
  refine ⟨bel_mod h1 hm (fun i hi hs => ?_), h2, ⟨cs, hi⟩, own_mod h4 hm (fun k hk hs => ?_)⟩
  · rcases hs with e | e
    · omega
    · have := own_base' h3.2.2.2.1 i e; omega
  · rcases hs with e | e
    · exact own_ne' h4 h3.1 (by decide) (by rw [hk, e])
    · exact own_own_ne h4 h3.2.2.2.1 (by decide) k hk e
theorem SH.below {w' : World} (h : SH w0 w g v bs lv l) (hb : Below w.heap.size w w') : SH w0 w' g v bs lv l := by
  obtain ⟨h1, h2, ⟨cs0, h3⟩, h4⟩ := h
  exact ⟨bel_then h1 hb, h2, ⟨cs0, h3.below hb⟩, own_below h4 hb⟩
theorem SH.add (h : SH w0 w g v bs lv l) (n : Int) (hb : totB bs < 10000) :
    Calls Tryz.prog 214 #[.pointer (some ⟨g, 0, none⟩), .int .i64 n] w fun e w' => e = .returned (.tuple #[]) ∧ ∃ v', SH w0 w' g v' (addB n bs) lv l ∧ Mod (fun k => k = g ∨ v.ownBlock = some k) w w' := by
  have hh := h
  obtain ⟨h1, h2, ⟨cs0, h3⟩, h4⟩ := h
  refine (h3.add n hb).mono ?_
  rintro e w' ⟨rfl, v', hi, hm, -⟩
  exact ⟨rfl, v', hh.step hi hm, hm⟩
theorem SH.remove (h : SH w0 w g v bs lv l) (n : Int) :
    Calls Tryz.prog 213 #[.pointer (some ⟨g, 0, none⟩), .int .i64 n] w fun e w' => e = .returned (.bool (isB n bs)) ∧ ∃ v', SH w0 w' g v' (remB n bs) lv l ∧ Mod (fun k => k = g ∨ v.ownBlock = some k) w w' := by
  have hh := h
  obtain ⟨h1, h2, ⟨cs0, h3⟩, h4⟩ := h
  refine (h3.remove n).mono ?_
  rintro e w' ⟨rfl, v', hi, hm, -⟩
  exact ⟨rfl, v', hh.step hi hm, hm⟩
theorem SH.rank (h : SH w0 w g v bs lv l) (k : Int) (hk : I64 k) :
    Calls Tryz.prog 221 #[.pointer (some ⟨g, 0, none⟩), .int .i64 k] w fun e w' => e = .returned (.tuple #[.int .i64 (rkR bs k).1, .bool (rkR bs k).2]) ∧ SH w0 w' g v bs lv l := by
  have hh := h
  obtain ⟨h1, h2, ⟨cs0, h3⟩, h4⟩ := h
  exact (h3.rank k hk).mono fun e w' ⟨he, hb⟩ => ⟨he, hh.below hb⟩
theorem SH.percent (h : SH w0 w g v bs lv l) (p : Int) (hp0 : 0 ≤ p) (hp1 : p ≤ 100) :
    Calls Tryz.prog 216 #[.pointer (some ⟨g, 0, none⟩), .int .i64 p] w fun e w' => e = .returned (.tuple #[.int .i64 (pcR bs p (totB bs : Nat)).1, .bool (pcR bs p (totB bs : Nat)).2]) ∧ SH w0 w' g v bs lv l := by
  have hh := h
  obtain ⟨h1, h2, ⟨cs0, h3⟩, h4⟩ := h
  exact (h3.percent p hp0 hp1).mono fun e w' ⟨he, hb⟩ => ⟨he, hh.below hb⟩
theorem SH.new_ {w0 w : World} (hb : Below w0.heap.size w0 w) : SH w0 (w.alloc (.cells #[.slice none 0 0, .int .i64 0] 193)) w.heap.size (.slice none 0 0) [] (.slice none 0 0) [] := by
  refine ⟨bel_alloc hb _, hb.size, ⟨_, Blk.new_ _ _ _, rfl, rfl, own_nil' _ _ _ _, ⟨List.Pairwise.nil, fun b hb => by cases hb⟩, by decide, by have := hb.size; simp; omega, by decide⟩, own_nil' _ _ _ _⟩
theorem SH.rd (h : SH w0 w g v bs lv l) : ∃ A c, lv = .slice A l.length c ∧ l.length ≤ c ∧ c ≤ maxLen ∧ Rd w A (l.map (.int .i64)) := own_rd h.2.2.2
theorem SH.setl {lv' : Value} {l' : List Int} {B : Nat} (h : SH w0 w g v bs lv l) (hB : w0.heap.size ≤ B) (ho : w.ownsRow B 3 1 lv' l'.length (l'.map (.int .i64))) : SH w0 w g v bs lv' l' :=
  ⟨h.1, h.2.1, h.2.2.1, own_lower ho hB⟩
theorem SH.far (h : SH w0 w g v bs lv l) {k : Nat} (hk : w.heap.size ≤ k) : k ≠ g ∧ v.ownBlock ≠ some k := by
  obtain ⟨h1, h2, ⟨cs0, h3⟩, h4⟩ := h
  have h5 := h3.1.lt
  exact ⟨by omega, fun e => by have := own_lt' h3.2.2.2.1 k e; omega⟩
theorem SH.bel (h : SH w0 w g v bs lv l) : Below w0.heap.size w0 w := h.1
end
end Go.Proofs.YtockkjhciojgbaaGreatDoor
/- LawHistB -/
/- Whatever is added to numbers and removed from them, walked. No condition. -/
namespace Go.Proofs.YtockkjhciojgbaaGreatDoor
set_option maxRecDepth 100000
set_option linter.unusedSimpArgs false
open Go.RowKit
set_option linter.unusedVariables false

def RAct08 (w : World) (cs : List Value) (x : Bool × Int) : Prop := cs.length = 2 ∧ RBool w ((cs.drop 0).take 1) x.1 ∧ RInt .i64 w ((cs.drop 1).take 1) x.2
theorem RAct08.cells {w : World} {cs : List Value} {x : Bool × Int} (h : RAct08 w cs x) : cs = [.bool x.1, .int .i64 x.2] ∧ I64 x.2 := by
  obtain ⟨hl, h1, ⟨h2, w2⟩⟩ := h
  match cs, hl with
  | [a, b], _ =>
    simp [RBool] at h1 h2
    subst h1 h2
    exact ⟨rfl, I64.of_wf w2⟩
def fAct08 (x : Bool × Int) : List Value := [.bool x.1, .int .i64 x.2]
theorem rk_least {bs : List (Int × Nat)} {l : List Int} (h : HistOf bs l) (k : Int) (hk : 1 ≤ k) : rkR bs k = lstOf (leastP l k) l := by
  unfold rkR
  rw [if_neg (by omega)]
  refine rank_least h (by omega) _ (fun x _ => ?_)
  unfold leastP
  exact decide_eq_decide.2 (by omega)
theorem pc_least {bs : List (Int × Nat)} {l : List Int} (h : HistOf bs l) (p : Int) (hp0 : 0 ≤ p) : pcR bs p (totB bs : Nat) = lstOf (percP l p) l := by
  unfold pcR rkR
  rw [if_neg (by omega), h.tot]
  have hq : 0 ≤ p * (l.length : Int) := Int.mul_nonneg hp0 (by omega)
  refine rank_least h (by omega) _ (fun x hx => ?_)
  unfold percP
  have h1 : 1 ≤ belowL l x := List.countP_pos_iff.2 ⟨x, hx, by simp⟩
  exact decide_eq_decide.2 (by omega)
theorem lst_none {l : List Int} {k : Int} (h : (l.length : Int) < k) : lstOf (leastP l k) l = (0, false) := by
  obtain ⟨s1, s2⟩ := lst_spec (leastP l k) l
  cases hb : (lstOf (leastP l k) l).2
  · exact (s1 hb).1
  · exfalso
    have := (s2 hb).2.1
    have h2 := belowL_le l (lstOf (leastP l k) l).1
    rw [show leastP l k (lstOf (leastP l k) l).1 = decide (k ≤ (belowL l (lstOf (leastP l k) l).1 : Int)) from rfl, decide_eq_true_eq] at this
    omega
theorem lst_is {bs : List (Int × Nat)} {l : List Int} (h : HistOf bs l) (k : Int) : (rkR bs k).2 = decide (1 ≤ k ∧ k ≤ (l.length : Int)) := by
  by_cases h1 : k < 1
  · unfold rkR; rw [if_pos h1, decide_eq_false (by omega)]
  · unfold rkR
    rw [if_neg h1]
    cases hr : rankB bs k.toNat with
    | none =>
      have := rank_none hr (by omega)
      rw [h.tot] at this
      rw [decide_eq_false (by omega)]; rfl
    | some m =>
      obtain ⟨_, h2, _⟩ := rank_some h.1 (by omega) hr
      rw [h.below] at h2
      have h3 := belowL_le l m
      rw [decide_eq_true (by omega)]; rfl
end Go.Proofs.YtockkjhciojgbaaGreatDoor
/- RingPure -/
/- A ring as a list: what its places hold. Plain law, no program. -/
namespace Go.Proofs.YtockkjhciojgbaaGreatDoor
set_option maxRecDepth 100000
set_option linter.unusedSimpArgs false

set_option linter.unusedVariables false
theorem mod2 {a n : Nat} (hn : 0 < n) (h : a < 2 * n) : a % n = if a < n then a else a - n := by
  split
  · exact Nat.mod_eq_of_lt ‹_›
  · rw [Nat.mod_eq_sub_mod (by omega)]; exact Nat.mod_eq_of_lt (by omega)

/-- The cells of a ring of n places hold q, the eldest at place 'first'. -/
def Holds {α : Type} (f : α → Value) (n first : Nat) (cs : Array Value) (q : List α) : Prop :=
  cs.size = n ∧ first < n ∧ q.length ≤ n ∧ ∀ i x, q[i]? = some x → cs[(first + i) % n]? = some (f x)

theorem Holds.none {α : Type} (f : α → Value) (n : Nat) (hn : 0 < n) (cs : Array Value) (hc : cs.size = n) : Holds f n 0 cs [] := ⟨hc, hn, by simp, fun i x h => by simp at h⟩

theorem Holds.push {α : Type} {f : α → Value} {n first : Nat} {cs : Array Value} {q : List α} (h : Holds f n first cs q) (hq : q.length < n) (x : α) :
    Holds f n first (cs.setIfInBounds ((first + q.length) % n) (f x)) (q ++ [x]) := by
  obtain ⟨h1, h2, h3, h4⟩ := h
  refine ⟨by simpa using h1, h2, by simp; omega, fun i y hy => ?_⟩
  have hn : 0 < n := by omega
  have hm := mod2 hn (a := first + q.length) (by omega)
  have hlt := Nat.mod_lt (first + q.length) hn
  rw [Array.getElem?_setIfInBounds]
  by_cases hi : i < q.length
  · rw [List.getElem?_append_left hi] at hy
    have hm2 := mod2 hn (a := first + i) (by omega)
    rw [if_neg (by rw [hm, hm2]; split <;> split <;> omega)]
    exact h4 i y hy
  · have hlen := (List.getElem?_eq_some_iff.1 hy).1
    simp at hlen
    have : i = q.length := by omega
    subst this
    rw [List.getElem?_append_right (Nat.le_refl _), Nat.sub_self] at hy
    simp at hy
    subst hy
    rw [if_pos rfl, if_pos (by omega)]

theorem Holds.turn {α : Type} {f : α → Value} {n first : Nat} {cs : Array Value} {y : α} {q : List α} (h : Holds f n first cs (y :: q)) (hq : (y :: q).length = n) (x : α) :
    cs[first]? = some (f y) ∧ Holds f n ((first + 1) % n) (cs.setIfInBounds first (f x)) (q ++ [x]) := by
  obtain ⟨h1, h2, h3, h4⟩ := h
  have hn : 0 < n := by omega
  simp at hq
  refine ⟨by have := h4 0 y rfl; rwa [Nat.add_zero, Nat.mod_eq_of_lt h2] at this, by simpa using h1, Nat.mod_lt _ hn, by simp; omega, fun i z hz => ?_⟩
  have hm := mod2 hn (a := first + 1) (by omega)
  have hlt := Nat.mod_lt (first + 1) hn
  rw [Array.getElem?_setIfInBounds]
  by_cases hi : i < q.length
  · rw [List.getElem?_append_left hi] at hz
    have hm2 := mod2 hn (a := (first + 1) % n + i) (by omega)
    have hm3 := mod2 hn (a := first + (i + 1)) (by omega)
    have e : ((first + 1) % n + i) % n = (first + (i + 1)) % n := by
      rw [Nat.mod_add_mod]; congr 1; omega
    rw [e, if_neg (by rw [hm3]; split <;> omega)]
    exact h4 (i + 1) z (by simpa using hz)
  · have hlen := (List.getElem?_eq_some_iff.1 hz).1
    simp at hlen
    have : i = q.length := by omega
    subst this
    rw [List.getElem?_append_right (Nat.le_refl _), Nat.sub_self] at hz
    simp at hz
    subst hz
    have e : ((first + 1) % n + q.length) % n = first := by
      rw [Nat.mod_add_mod, show first + 1 + q.length = first + n by omega, Nat.add_mod_right, Nat.mod_eq_of_lt h2]
    rw [e, if_pos rfl, if_pos (by omega)]

theorem Holds.at_ {α : Type} {f : α → Value} {n first : Nat} {cs : Array Value} {q : List α} (h : Holds f n first cs q) {i : Nat} (hi : i < q.length) :
    ∃ x, q[i]? = some x ∧ cs[(first + i) % n]? = some (f x) := ⟨_, List.getElem?_eq_getElem hi, h.2.2.2 i _ (List.getElem?_eq_getElem hi)⟩

/-- The last n of a row. -/
def lastN {α : Type} (n : Nat) (xs : List α) : List α := xs.drop (xs.length - n)
theorem lastN_len {α : Type} (n : Nat) (xs : List α) : (lastN n xs).length = min n xs.length := by simp [lastN]; omega
theorem lastN_push {α : Type} {n : Nat} (hn : 0 < n) (xs : List α) (x : α) :
    (if (lastN n xs).length < n then lastN n xs ++ [x] else (lastN n xs).tail ++ [x]) = lastN n (xs ++ [x]) := by
  have hl := lastN_len n xs
  split
  · have h0 : xs.length - n = 0 := by omega
    have h1 : (xs ++ [x]).length - n = 0 := by simp; omega
    simp only [lastN]
    rw [h0, h1]; simp
  · unfold lastN
    rw [List.tail_drop, List.length_append, List.length_singleton, show xs.length + 1 - n = xs.length - n + 1 by omega, List.drop_append_of_le_length (by omega)]
theorem lastN_get {α : Type} {n : Nat} {xs : List α} {j : Nat} (h : j < min n xs.length) : (lastN n xs)[j]? = xs[xs.length - n + j]? := by
  simp [lastN, List.getElem?_drop]
end Go.Proofs.YtockkjhciojgbaaGreatDoor
/- RingInt -/
/- What the ring's functions do to its block and to its row: a ring of whole numbers. No condition. -/
namespace Go.Proofs.YtockkjhciojgbaaGreatDoor
set_option maxRecDepth 100000
set_option linter.unusedSimpArgs false
open Go.RowKit
set_option linter.unusedVariables false

theorem ringInt_place (g b n first many i : Nat) (w : World) (h : Blk w g 221 #[.slice (some ⟨b, 0, none⟩) n n, .int .i64 first, .int .i64 many]) (hn : 0 < n) (hf : first < n) (hi : i ≤ n) (hm : n ≤ 1000000) :
    Calls Tryz.prog 217 #[.pointer (some ⟨g, 0, none⟩), .int .i64 i] w fun e w' => e = .returned (.int .i64 ((first + i) % n : Nat)) ∧ Dr w w' := by
  have h0 : w.cell? ⟨g, 0, none⟩ = some (.slice (some ⟨b, 0, none⟩) n n) := by simpa using h.cell 0
  have h1 : w.cell? ⟨g, 1, none⟩ = some (.int .i64 first) := by simpa using h.cell 1
  have hw : IntKind.i64.wrap ((first : Int) + (i : Int)) = (first : Int) + (i : Int) := IntWalk.i64_in _ (by omega)
  have hz : ((n : Int) == 0) = false := by rw [beq_eq_false_iff_ne]; omega
  have hp : (0 : Int) ≤ (first : Int) + (i : Int) := by omega
  go_enter Tryz.func217, Tryz.ntmps217
  go_wp2
  go_quiet (fail)
  go_wp2
  go_ret
  exact ⟨ret_int (by simp), (by repeat (first | exact Dr.refl _ | apply Dr.step | apply Dr.stepd))⟩
/-- The same with the number 1. -/
theorem ringInt_place1 (g b n first many : Nat) (w : World) (h : Blk w g 221 #[.slice (some ⟨b, 0, none⟩) n n, .int .i64 first, .int .i64 many]) (hn : 0 < n) (hf : first < n) (hm : n ≤ 1000000) :
    Calls Tryz.prog 217 #[.pointer (some ⟨g, 0, none⟩), .int .i64 1] w fun e w' => e = .returned (.int .i64 ((first + 1) % n : Nat)) ∧ Dr w w' :=
  ringInt_place g b n first many 1 w h hn hf (by omega) hm

/-- A ring of n places at block g, its row block b: it holds q, the eldest first. -/
def RingInt (w : World) (g b n : Nat) (q : List Int) : Prop := ∃ (first : Nat) (cs : Array Value), Blk w g 221 #[.slice (some ⟨b, 0, none⟩) n n, .int .i64 first, .int .i64 q.length] ∧ Blk w b 3 cs ∧ Holds (Value.int .i64) n first cs q
theorem RingInt.mod {w w' : World} {g b n : Nat} {q : List Int} {S : Nat → Prop} (h : RingInt w g b n q) (hm : Mod S w w') (h1 : ¬ S g) (h2 : ¬ S b) : RingInt w' g b n q := by
  obtain ⟨first, cs, hg, hb, hh⟩ := h
  exact ⟨first, cs, hg.mod hm h1, hb.mod hm h2, hh⟩
theorem RingInt.drewN {w : World} {g b n : Nat} {q : List Int} (h : RingInt w g b n q) (m : Nat) : RingInt (w.drewN m) g b n q := h
theorem RingInt.below {w w' : World} {g b n : Nat} {q : List Int} (h : RingInt w g b n q) (hm : Below w.heap.size w w') : RingInt w' g b n q :=
  h.mod (Mod.of_below (S := fun _ => False) hm) id id
theorem RingInt.len {w : World} {g b n : Nat} {q : List Int} (h : RingInt w g b n q) : q.length ≤ n ∧ 0 < n := by
  obtain ⟨first, cs, _, _, hh⟩ := h
  exact ⟨hh.2.2.1, by have := hh.2.1; omega⟩

theorem ringInt_Push (g b n : Nat) (q : List Int) (x : Int) (w : World) (h : RingInt w g b n q) (hm : n ≤ 1000000) :
    Calls Tryz.prog 212 #[.pointer (some ⟨g, 0, none⟩), (Value.int .i64) x] w fun e w' =>
      e = .returned (.tuple #[(Value.int .i64) (if q.length < n then (0 : Int) else q.headD (0 : Int)), .bool (decide (n ≤ q.length))]) ∧
      RingInt w' g b n (if q.length < n then q ++ [x] else q.tail ++ [x]) ∧ Mod (fun k => k = g ∨ k = b) w w' := by
  obtain ⟨first, cs, h, hb, hh⟩ := h
  have h0 : w.cell? ⟨g, 0, none⟩ = some (.slice (some ⟨b, 0, none⟩) n n) := by simpa using h.cell 0
  have h1 : w.cell? ⟨g, 1, none⟩ = some (.int .i64 first) := by simpa using h.cell 1
  have h2 : w.cell? ⟨g, 2, none⟩ = some (.int .i64 q.length) := by simpa using h.cell 2
  have hfl := hh.2.1
  have hql := hh.2.2.1
  have hn : 0 < n := by omega
  have hcs := hh.1
  have hgf := h.frozen 2
  have hgf1 := h.frozen 1
  have hgb : g ≠ b := h.ne hb (by decide)
  have hbg : b ≠ g := hgb.symm
  by_cases hq : q.length < n
  · have hlt := Nat.mod_lt (first + q.length) hn
    have hb0 : w.cell? ⟨b, (first + q.length) % n, none⟩ = some cs[(first + q.length) % n] := by rw [hb.cell]; exact Array.getElem?_eq_getElem (by omega)
    have hbf := hb.frozen ((first + q.length) % n)
    have HH := hid' h
    have HB := hid' hb
    have HW := hid' (hh.push hq x)
    rw [if_pos hq, if_pos hq, show decide (n ≤ q.length) = false by rw [decide_eq_false_iff_not]; omega]
    generalize cs[(first + q.length) % n] = old at *
    clear h hb hh hcs h1 hgf1
    have HP := hid' fun (wx : World) => ringInt_place g b n first q.length q.length wx
    generalize hM : (first + q.length) % n = M at *
    have HM := hid' hM
    clear hM
    go_enter Tryz.func212, Tryz.ntmps212
    go_wp2
    go_quiet (fail)
    go_wp2_with fail
    go_region_held3 (fun w' => w'.cell? ⟨g, 0, none⟩ = some (.slice (some ⟨b, 0, none⟩) n n) ∧ w'.cell? ⟨g, 2, none⟩ = some (.int .i64 q.length))
      (first | go_keep)
      ((go_at_call 217; refine (HP.out _ (by exact HH.out) (by omega) (by omega) (by omega) (by omega)).mono ?_; rintro e w' ⟨rfl, nd, rfl⟩))
    have HZ := hid' (show (q ++ [x]).length = q.length + 1 by simp)
    have hgf' := HH.out.frozen 2
    go_wp2
    go_ret2
    refine ⟨rfl, ⟨first, cs.setIfInBounds M ((Value.int .i64) x), ?_, ?_, HW.out⟩, ?_⟩
    · have := ((HH.out.drewN (nq + 1 + nd)).far (p := ⟨b, M, none⟩) hgb ((Value.int .i64) x)).set 2 (.int .i64 (q.length + 1))
      rw [HZ.out]
      simpa using this
    · exact ((HB.out.drewN _).set M _).far (p := ⟨g, 2, none⟩) hbg _
    · exact (((Mod.refl _ w).drewN _).setCell (p := ⟨b, M, none⟩) (fun _ => .inr rfl) _).setCell (p := ⟨g, 2, none⟩) (fun _ => .inl rfl) _
  · have hqn : q.length = n := by omega
    match q, hqn with
    | [], hqn => simp at hqn; omega
    | y :: q, hqn =>
    obtain ⟨hy, hw⟩ := hh.turn hqn x
    have hb0 : w.cell? ⟨b, first, none⟩ = some ((Value.int .i64) y) := by rw [hb.cell]; exact hy
    have hbf := hb.frozen first
    have HH := hid' h
    have HB := hid' hb
    have HW := hid' hw
    rw [if_neg hq, if_neg hq, show decide (n ≤ (y :: q).length) = true by rw [decide_eq_true_eq]; omega]
    have HQ := hid' hqn
    have hq' : decide ((y :: q).length < n) = false := by rw [decide_eq_false_iff_not]; omega
    have hf0 : (0 : Int) ≤ (first : Int) := by omega
    have hf1 : (first : Int) < (n : Int) := by omega
    have hcs' := hcs
    clear h hb hh hcs hy hw hq hqn
    have HP := hid' fun (wx : World) (cs' : Array Value) => ringInt_place1 g b n first ((y :: q).length) wx
    generalize hM : (first + 1) % n = M at *
    have HM := hid' hM
    clear hM
    generalize hL : (y :: q).length = L at *
    have HL := hid' hL
    clear hL hcs'
    go_enter Tryz.func212, Tryz.ntmps212
    go_wp2
    go_quiet (fail)
    go_wp2_with fail
    go_region
    have hbg' : (⟨b, first, none⟩ : Addr).block ≠ g := hbg
    go_wp2_with fail
    refine (HP.out _ #[] (by exact (HH.out.drewN _).far (p := ⟨b, first, none⟩) hgb _) (by omega) (by omega) (by omega)).mono ?_
    rintro e w' ⟨rfl, nd, rfl⟩
    have h1' : w.cell? ⟨g, 1, none⟩ = some (.int .i64 first) := h1
    go_wp2
    go_ret2
    refine ⟨rfl, ⟨M, cs.setIfInBounds first ((Value.int .i64) x), ?_, ?_, HW.out⟩, ?_⟩
    · rw [show ((y :: q).tail ++ [x]).length = L by have := HL.out; simp at this ⊢; omega]
      exact ((((HH.out.drewN (nq + 1)).far (p := ⟨b, first, none⟩) hgb ((Value.int .i64) x)).drewN nd).set 1 (.int .i64 M)).cast (by simp)
    · exact (((HB.out.drewN _).set first _).drewN _).far (p := ⟨g, 1, none⟩) hbg _
    · exact ((((Mod.refl _ w).drewN _).setCell (p := ⟨b, first, none⟩) (fun _ => .inr rfl) _).drewN _).setCell (p := ⟨g, 1, none⟩) (fun _ => .inl rfl) _
end Go.Proofs.YtockkjhciojgbaaGreatDoor
/- RingIntB -/
/- What the ring's other functions answer: a ring of whole numbers. No condition. -/
namespace Go.Proofs.YtockkjhciojgbaaGreatDoor
set_option maxRecDepth 100000
set_option linter.unusedSimpArgs false
open Go.RowKit
set_option linter.unusedVariables false

theorem ringInt_New (room : Int) (w : World) (hr : room ≤ 1000000) :
    Calls Tryz.prog 125 #[.int .i64 room] w fun e w' => ∃ g b, e = .returned (.pointer (some ⟨g, 0, none⟩)) ∧ w.heap.size ≤ g ∧ w.heap.size ≤ b ∧ RingInt w' g b (max room 1).toNat [] ∧ Below w.heap.size w w' := by
  obtain ⟨n, hn⟩ : ∃ n : Nat, max room 1 = (n : Int) := ⟨(max room 1).toNat, by omega⟩
  have hmk := run_make_row' (P := Tryz.prog) 99 3 (.int .i64 0) 8 Tryz.underlying99 (by kernel_rfl) rfl .i64 .i64 n (by omega) (by omega)
  have hmax : max room 1 = (n : Int) := hn
  have hT : (max room 1).toNat = n := by omega
  rw [hT]
  have hn1 : 0 < n := by omega
  clear hn hT
  have HM := hid' hmax
  go_enter Tryz.func125, Tryz.ntmps125
  go_wp2
  go_ret
  refine ⟨w.heap.size + 1, w.heap.size, rfl, by omega, by omega, ⟨0, madeCells #[(.int .i64 0)] n, ?_, ?_, Holds.none _ n hn1 _ (by simp [madeCells])⟩, (by repeat (first | assumption | apply bel_alloc | apply bel_drewN | apply bel_drew | exact bel_refl _))⟩
  · have := Blk.new_ (w.alloc (.cells (madeCells #[(.int .i64 0)] n) 3)) 221 #[.slice (some ⟨w.heap.size, 0, none⟩) n n, .int .i64 0, .int .i64 0]
    simpa using this
  · exact (Blk.new_ w 3 (madeCells #[(.int .i64 0)] n)).alloc _

end Go.Proofs.YtockkjhciojgbaaGreatDoor
/- RingIntC -/
/- All that a ring holds: a ring of whole numbers. No condition. -/
namespace Go.Proofs.YtockkjhciojgbaaGreatDoor
set_option maxRecDepth 100000
set_option linter.unusedSimpArgs false
open Go.RowKit
set_option linter.unusedVariables false

end Go.Proofs.YtockkjhciojgbaaGreatDoor
/- Bounded -/
/- What the functions of bounded do to their block, and what their reference answers. No condition. -/
namespace Go.Proofs.YtockkjhciojgbaaGreatDoor
set_option maxRecDepth 100000
set_option linter.unusedSimpArgs false
open Go.RowKit
set_option linter.unusedVariables false

theorem clamp_RaiseX (g o : Nat) (a : Int) (s : Bool) (n : Int) (w : World) (hc : w.cell? ⟨g, o, none⟩ = some (.int .i64 a)) (hs : w.cell? ⟨g, o + 1, none⟩ = some (.bool s))
    (hf : w.frozen? ⟨g, o, none⟩ = false) (hf' : w.frozen? ⟨g, o + 1, none⟩ = false) :
    Calls Tryz.prog 132 #[.pointer (some ⟨g, o, none⟩), .int .i64 n] w fun e w' => e = .returned (.bool (decide (clNow a s < n))) ∧ (w.setCell ⟨g, o, none⟩ (.int .i64 (clA a s n))).setCell ⟨g, o + 1, none⟩ (.bool (clS a s n)) = w' :=
  clamp_Raise g o a s n w hc hs hf hf'

def bAfter (most bound : Int) : Int := satSub (satSub most bound) 1
theorem I64.bAfter (a b : Int) : I64 (bAfter a b) := I64.satSub _ _
theorem bounded_After (most bound : Int) (w : World) (hm : I64 most) (hb : I64 bound) :
    Calls Tryz.prog 215 #[.int .i64 most, .int .i64 bound] w fun e w' => e = .returned (.int .i64 (bAfter most bound)) ∧ w = w' := by
  go_enter Tryz.func215, Tryz.ntmps215
  go_wp2_with fail
  refine (sat_Sub most bound _ hm hb).mono ?_
  rintro e w' ⟨rfl, rfl⟩
  go_wp2_with fail
  refine (sat_Sub (satSub most bound) 1 _ (I64.satSub _ _) (by unfold I64 at *; omega)).mono ?_
  rintro e w' ⟨rfl, rfl⟩
  go_wp2
  go_ret
  exact ⟨rfl, rfl⟩

/-- The block of such a way: its bound, how far time has come, and the latest of all times. -/
def BGen (w : World) (g : Nat) (bound now most : Int) : Prop :=
  ∃ a1 s1 a2 s2, Blk w g 197 #[.int .i64 bound, .int .i64 a1, .bool s1, .int .i64 a2, .bool s2] ∧ clNow a1 s1 = now ∧ clNow a2 s2 = most ∧ I64 bound ∧ I64 a1 ∧ I64 a2
theorem BGen.mod {w w' : World} {g : Nat} {bound now most : Int} {S : Nat → Prop} (h : BGen w g bound now most) (hm : Mod S w w') (hs : ¬ S g) : BGen w' g bound now most := by
  obtain ⟨a1, s1, a2, s2, hb, h⟩ := h
  exact ⟨a1, s1, a2, s2, hb.mod hm hs, h⟩
theorem BGen.now {w : World} {g : Nat} {bound now most : Int} (h : BGen w g bound now most) : I64 now ∧ I64 most ∧ I64 bound := by
  obtain ⟨a1, s1, a2, s2, _, rfl, rfl, h1, h2, h3⟩ := h
  exact ⟨I64.clNow h2, I64.clNow h3, h1⟩

theorem bounded_New (bound : Int) (w : World) (hb : I64 bound) :
    Calls Tryz.prog 85 #[.int .i64 bound] w fun e w' => ∃ g, e = .returned (.pointer (some ⟨g, 0, none⟩)) ∧ w.heap.size ≤ g ∧ BGen w' g bound NEV NEV ∧ Below w.heap.size w w' := by
  go_enter Tryz.func85, Tryz.ntmps85
  go_wp2
  go_ret
  refine ⟨w.heap.size, rfl, Nat.le_refl _, ⟨0, false, 0, false, ?_, rfl, rfl, hb, (by unfold I64 at *; omega), (by unfold I64 at *; omega)⟩, (by repeat (first | assumption | apply bel_alloc | apply bel_drewN | apply bel_drew | exact bel_refl _))⟩
  exact Blk.new_ _ _ _
theorem bounded_Now (g : Nat) (bound now most : Int) (w : World) (h : BGen w g bound now most) :
    Calls Tryz.prog 229 #[.pointer (some ⟨g, 0, none⟩)] w fun e w' => e = .returned (.int .i64 now) ∧ w = w' := by
  obtain ⟨a1, s1, a2, s2, hb, rfl, rfl, h1, h2, h3⟩ := h
  go_enter Tryz.func229, Tryz.ntmps229
  go_wp2_with fail
  refine (clamp_Now g 1 a1 s1 _ (by simpa using hb.cell 1) (by simpa using hb.cell 2)).mono ?_
  rintro e w' ⟨rfl, rfl⟩
  go_wp2
  go_ret
  exact ⟨rfl, rfl⟩
theorem bounded_Seen (g : Nat) (bound now most kind t : Int) (txt : ByteArray) (w : World) (h : BGen w g bound now most) (ht : I64 t) :
    Calls Tryz.prog 230 #[.pointer (some ⟨g, 0, none⟩), .agg #[.int .i64 kind, .int .i64 t, .string txt]] w fun e w' =>
      e = .returned (.tuple #[]) ∧ BGen w' g bound (max now (bAfter (max most t) bound)) (max most t) ∧ Mod (fun k => k = g) w w' := by
  obtain ⟨a1, s1, a2, s2, hb, rfl, rfl, h1, h2, h3⟩ := h
  have HN := hid' (clNow_raise a2 s2 t)
  have HR := hid' (clNow_raise a1 s1 (bAfter (max (clNow a2 s2) t) bound))
  have HI2 := hid' (I64.clA (s := s2) h3 ht)
  have HI1 := hid' (I64.clA (s := s1) h2 (I64.bAfter (max (clNow a2 s2) t) bound))
  have HMi := hid' (I64.clNow (s := clS a2 s2 t) HI2.out)
  rw [HN.out] at HMi
  have hb1 := hb.alloc (.cells #[.int .i64 kind, .int .i64 t, .string txt] 106)
  have hbox := Blk.new_ w 106 #[.int .i64 kind, .int .i64 t, .string txt]
  have hm1 := (Mod.refl (fun k => k = g) w).alloc (.cells #[.int .i64 kind, .int .i64 t, .string txt] 106)
  have hgne : g ≠ w.heap.size := by have := hb.lt; omega
  have hgne' : w.heap.size ≠ g := by omega
  go_enter Tryz.func230, Tryz.ntmps230
  go_wp2_with fail
  generalize w.alloc (.cells #[.int .i64 kind, .int .i64 t, .string txt] 106) = w1 at *
  generalize w.heap.size = b at *
  have cb : w1.cell? ⟨b, 1, none⟩ = some (.int .i64 t) := by simpa using hbox.cell 1
  have HM1 := hid' hm1
  have HB1 := hid' hb1
  clear hb hb1 hbox hm1
  go_region_held3 (fun w' => w'.cell? ⟨b, 1, none⟩ = some (.int .i64 t))
    (first | go_keep | exact hcell)
    ((go_at_call 132; refine (clamp_RaiseI g 3 _ _ a2 s2 t w1.drew HB1.out.drew rfl rfl).mono ?_; rintro e w2 ⟨rfl, hb2, hm2⟩; have hcell := hm2.cell cb hgne'))
  have HM2 := hid' (HM1.out.trans ((Mod.refl _ w1).drew.trans hm2))
  have HB2 := hid' (hb2.cast (cs' := #[.int .i64 bound, .int .i64 a1, .bool s1, .int .i64 (clA a2 s2 t), .bool (clS a2 s2 t)]) rfl)
  have c0 : w2.cell? ⟨g, 0, none⟩ = some (.int .i64 bound) := by simpa using HB2.out.cell 0
  clear hb2 hm2 hcell cb HM1 HB1
  go_wp2_with fail
  go_region_held3 (fun w' => w'.cell? ⟨g, 0, none⟩ = some (.int .i64 bound))
    (first | go_keep | exact hcell)
    (first
      | (go_at_call 104; refine (clamp_NowI g 3 _ _ (clA a2 s2 t) (clS a2 s2 t) w2.drew HB2.out.drew rfl rfl).mono ?_; rintro e w' ⟨rfl, rfl⟩; rw [HN.out])
      | (go_at_call 215; refine (bounded_After (max (clNow a2 s2) t) bound _ HMi.out h1).mono ?_; rintro e w' ⟨rfl, rfl⟩)
      | (go_at_call 132; refine (clamp_RaiseI g 1 _ _ a1 s1 (bAfter (max (clNow a2 s2) t) bound) w2.drew HB2.out.drew rfl rfl).mono ?_; rintro e w3 ⟨rfl, hb3, hm3⟩; have hcell : w3.cell? ⟨g, 0, none⟩ = some (.int .i64 bound) := by simpa using hb3.cell 0))
  have HM3 := hid' (HM2.out.trans ((Mod.refl _ w2).drew.trans hm3))
  have HB3 := hid' (hb3.cast (cs' := #[.int .i64 bound, .int .i64 (clA a1 s1 (bAfter (max (clNow a2 s2) t) bound)), .bool (clS a1 s1 (bAfter (max (clNow a2 s2) t) bound)), .int .i64 (clA a2 s2 t), .bool (clS a2 s2 t)]) rfl)
  clear hb3 hm3 hcell c0
  go_wp2
  go_end0
  exact ⟨rfl, ⟨_, _, _, _, HB3.out, HR.out, HN.out, h1, HI1.out, HI2.out⟩, HM3.out⟩
end Go.Proofs.YtockkjhciojgbaaGreatDoor
/- Bounded10 -/
/- The reference of layer 10, and its times as a plain law. No condition. -/
namespace Go.Proofs.YtockkjhciojgbaaGreatDoor
set_option maxRecDepth 100000
set_option linter.unusedSimpArgs false
open Go.RowKit
set_option linter.unusedVariables false

def mostOf (xs : List Int) : Int := xs.foldl max NEV
def nowOf (xs : List Int) (b : Int) : Int := if xs = [] then NEV else bAfter (mostOf xs) b
theorem mostOf_snoc (xs : List Int) (x : Int) : mostOf (xs ++ [x]) = max (mostOf xs) x := by simp [mostOf]
theorem mostOf_I64 (xs : List Int) (h : ∀ x ∈ xs, I64 x) : I64 (mostOf xs) := by
  have : ∀ (xs : List Int) (a : Int), I64 a → (∀ x ∈ xs, I64 x) → I64 (xs.foldl max a) := by
    intro xs
    induction xs with
    | nil => intro a h _; exact h
    | cons x xs ih =>
      intro a h h2
      refine ih _ ?_ (fun y hy => h2 y (List.mem_cons_of_mem _ hy))
      have := h2 x (List.mem_cons_self ..)
      unfold I64 at *; omega
  exact this xs NEV I64.nev h
theorem bAfter_mono {a a' : Int} (b : Int) (h : a ≤ a') : bAfter a b ≤ bAfter a' b := by unfold bAfter satSub; repeat' split <;> omega
theorem nev_le {a : Int} (h : I64 a) : NEV ≤ a := h.1
theorem nowOf_snoc (xs : List Int) (x b : Int) : max (nowOf xs b) (bAfter (max (mostOf xs) x) b) = nowOf (xs ++ [x]) b := by
  have h2 : nowOf (xs ++ [x]) b = bAfter (max (mostOf xs) x) b := by unfold nowOf; rw [if_neg (by simp), mostOf_snoc]
  rw [h2]
  unfold nowOf
  by_cases h : xs = []
  · rw [if_pos h]; exact Int.max_eq_right (nev_le (I64.bAfter _ _))
  · rw [if_neg h]; exact Int.max_eq_right (bAfter_mono b (by omega))
theorem nowOf_le (xs : List Int) (x b : Int) : nowOf xs b ≤ nowOf (xs ++ [x]) b := by rw [← nowOf_snoc]; omega
theorem nowOf_I64 (xs : List Int) (b : Int) : I64 (nowOf xs b) := by unfold nowOf; split; exact I64.nev; exact I64.bAfter _ _

end Go.Proofs.YtockkjhciojgbaaGreatDoor
/- Percent -/
/- What the functions of percent do. No condition. -/
namespace Go.Proofs.YtockkjhciojgbaaGreatDoor
set_option maxRecDepth 100000
set_option linter.unusedSimpArgs false
open Go.RowKit
set_option linter.unusedVariables false

theorem HistI.put {w w' : World} {g o B : Nat} {T : TypeId} {cs cs' : Array Value} {v : Value} {bs : List (Int × Nat)} (h : HistI w g o T cs B v bs) (hb : Blk w' g T cs') (hm : Mod (fun k => k = g) w w') (h0 : cs'[o]? = some v) (h1 : cs'[o + 1]? = some (.int .i64 (totB bs : Nat))) : HistI w' g o T cs' B v bs := by
  have hne := h.ne
  obtain ⟨a1, a2, a3, a4, a5, a6, a7, a8⟩ := h
  exact ⟨hb, h0, h1, own_mod a4 hm (fun k hk e => hne (by rw [hk, e])), a5, a6, Nat.le_trans a7 hm.size, a8⟩
def pLag (q : List Int) (p : Int) : Int := (lstOf (percP q p) q).1
theorem I64.pLag {q : List Int} (h : ∀ x ∈ q, I64 x) (p : Int) : I64 (pLag q p) := by
  obtain ⟨s1, s2⟩ := lst_spec (percP q p) q
  unfold Go.Proofs.YtockkjhciojgbaaGreatDoor.pLag
  cases hb : (lstOf (percP q p) q).2
  · rw [(s1 hb).1]; unfold I64; decide
  · exact h _ (s2 hb).1
def pushQ (n : Nat) (q : List Int) (x : Int) : List Int := if q.length < n then q ++ [x] else q.tail ++ [x]
def pgCells (p : Int) (rg : Nat) (v : Value) (all : Nat) (a2 : Int) (s2 : Bool) (a1 : Int) (s1 : Bool) : Array Value :=
  #[.int .i64 p, .pointer (some ⟨rg, 0, none⟩), v, .int .i64 (all : Int), .int .i64 a2, .bool s2, .int .i64 a1, .bool s1]
/-- Such a way: its blocks, the lags that count, how far time has come, the latest. -/
def PGen (w : World) (B g rg rb : Nat) (v : Value) (p : Int) (n : Nat) (q : List Int) (now most : Int) : Prop :=
  ∃ (bs : List (Int × Nat)) (a2 : Int) (s2 : Bool) (a1 : Int) (s1 : Bool), HistI w g 2 195 (pgCells p rg v (totB bs) a2 s2 a1 s1) B v bs ∧ RingInt w rg rb n q ∧ HistOf bs q ∧ clNow a1 s1 = now ∧ clNow a2 s2 = most ∧ I64 a1 ∧ I64 a2 ∧ (0 ≤ p ∧ p ≤ 100) ∧ n ≤ 5000 ∧ (∀ x ∈ q, I64 x) ∧ B ≤ g ∧ B ≤ rg ∧ B ≤ rb
def PF (g rg rb : Nat) (v : Value) : Nat → Prop := fun k => k = g ∨ k = rg ∨ k = rb ∨ v.ownBlock = some k
section
variable {w w' : World} {B g rg rb : Nat} {v : Value} {p : Int} {n : Nat} {q : List Int} {now most : Int}
theorem RingInt.blks {w : World} {g b n : Nat} {q : List Int} (h : RingInt w g b n q) : (∃ cs, Blk w g 221 cs) ∧ ∃ cs, Blk w b 3 cs := by
  obtain ⟨first, cs, h1, h2, _⟩ := h
  exact ⟨⟨_, h1⟩, ⟨_, h2⟩⟩
theorem PGen.mod {S : Nat → Prop} (h : PGen w B g rg rb v p n q now most) (hm : Mod S w w') (hs : ∀ k, PF g rg rb v k → ¬ S k) : PGen w' B g rg rb v p n q now most := by
  obtain ⟨bs, a2, s2, a1, s1, h1, h2, h3⟩ := h
  exact ⟨bs, a2, s2, a1, s1, h1.mod hm (hs g (.inl rfl)) (fun k hk => hs k (.inr (.inr (.inr hk)))), h2.mod hm (hs rg (.inr (.inl rfl))) (hs rb (.inr (.inr (.inl rfl)))), h3⟩
theorem PGen.below (h : PGen w B g rg rb v p n q now most) (hb : Below w.heap.size w w') : PGen w' B g rg rb v p n q now most :=
  h.mod (Mod.of_below (S := fun _ => False) hb) (fun _ _ h => h)
theorem PGen.bound (h : PGen w B g rg rb v p n q now most) : (∀ k, PF g rg rb v k → B ≤ k ∧ k < w.heap.size) ∧ I64 now ∧ I64 most ∧ q.length ≤ n ∧ 0 < n := by
  obtain ⟨bs, a2, s2, a1, s1, h1, h2, h3, h4, h5, h6, h7, h8, h9, h10, h11, h12, h13⟩ := h
  obtain ⟨⟨c1, b1⟩, ⟨c2, b2⟩⟩ := h2.blks
  have := h2.len
  refine ⟨fun k hk => ?_, by rw [← h4]; exact I64.clNow h6, by rw [← h5]; exact I64.clNow h7, this.1, this.2⟩
  rcases hk with e | e | e | e
  · subst e; exact ⟨h11, h1.1.lt⟩
  · subst e; exact ⟨h12, b1.lt⟩
  · subst e; exact ⟨h13, b2.lt⟩
  · exact ⟨own_base' h1.2.2.2.1 k e, own_lt' h1.2.2.2.1 k e⟩
theorem percent_Now (h : PGen w B g rg rb v p n q now most) :
    Calls Tryz.prog 209 #[.pointer (some ⟨g, 0, none⟩)] w fun e w' => e = .returned (.int .i64 now) ∧ w = w' := by
  obtain ⟨bs, a2, s2, a1, s1, h1, h2, h3, rfl, h5, h6⟩ := h
  go_enter Tryz.func209, Tryz.ntmps209
  go_wp2_with fail
  refine (clamp_Now g 6 a1 s1 _ (by rw [h1.1.cell]; rfl) (by rw [h1.1.cell]; rfl)).mono ?_
  rintro e w' ⟨rfl, rfl⟩
  go_wp2
  go_ret
  exact ⟨rfl, rfl⟩
theorem percent_Lag (h : PGen w B g rg rb v p n q now most) :
    Calls Tryz.prog 208 #[.pointer (some ⟨g, 0, none⟩)] w fun e w' => e = .returned (.int .i64 (pLag q p)) ∧ Below w.heap.size w w' := by
  obtain ⟨bs, a2, s2, a1, s1, h1, h2, h3, h4, h5, h6, h7, ⟨hp0, hp1⟩, h9⟩ := h
  have c0 : w.cell? ⟨g, 0, none⟩ = some (.int .i64 p) := by rw [h1.1.cell]; rfl
  have HI := hid' h1
  have HL := hid' (show (pcR bs p (totB bs : Nat)).1 = pLag q p by rw [pc_least h3 p hp0]; rfl)
  clear h1 h2 h3
  go_enter Tryz.func208, Tryz.ntmps208
  go_wp2_with fail
  go_region_with (go_at_call 216; refine (HistI.percent (show HistI w.drew g 2 _ _ _ _ _ from HI.out) p hp0 hp1).mono ?_; rintro e w2 ⟨rfl, hB2⟩)
  all_goals
    go_wp2
    go_ret
    refine ⟨ret_int HL.out, ?_⟩
    first | exact bel_then (bel_drew (bel_refl w)) hB2 | exact bel_drew (bel_then (bel_drew (bel_refl w)) hB2)
end

theorem percent_New (p window : Int) (w : World) (hp0 : 0 ≤ p) (hp1 : p ≤ 100) (hw : window ≤ 5000) :
    Calls Tryz.prog 84 #[.int .i64 p, .int .i64 window] w fun e w' => ∃ g rg rb, e = .returned (.pointer (some ⟨g, 0, none⟩)) ∧ PGen w' w.heap.size g rg rb (.slice none 0 0) p (max window 1).toNat [] NEV NEV ∧ Below w.heap.size w w' := by
  go_enter Tryz.func84, Tryz.ntmps84
  go_wp2_with fail
  refine (ringInt_New window w (by omega)).mono ?_
  rintro e w1 ⟨rg, rb, rfl, hg, hb, hR, hB⟩
  go_wp2
  go_ret
  refine ⟨_, rg, rb, rfl, ⟨[], 0, false, 0, false, ⟨Blk.new_ w1 _ _, rfl, rfl, own_nil' _ _ _ _, ⟨List.Pairwise.nil, fun b hb => by cases hb⟩, by decide, by have := hB.size; simp; omega, by decide⟩, hR.below (bel_alloc (bel_refl _) _), HistOf.nil, rfl, rfl, (by unfold I64 at *; omega), (by unfold I64 at *; omega), ⟨hp0, hp1⟩, by omega, (fun x hx => by cases hx), hB.size, hg, hb⟩, bel_alloc hB _⟩
set_option maxHeartbeats 4000000 in
theorem percent_Seen {w : World} {B g rg rb : Nat} {v : Value} {p : Int} {n : Nat} {q : List Int} {now most : Int} (h : PGen w B g rg rb v p n q now most) (kind t : Int) (txt : ByteArray) (ht : I64 t) (hql : q.length < 9000) :
    Calls Tryz.prog 210 #[.pointer (some ⟨g, 0, none⟩), .agg #[.int .i64 kind, .int .i64 t, .string txt]] w fun e w' =>
      e = .returned (.tuple #[]) ∧ ∃ v', PGen w' B g rg rb v' p n (pushQ n q (satSub (max most t) t)) (max now (bAfter (max most t) (pLag (pushQ n q (satSub (max most t) t)) p))) (max most t) ∧ Mod (PF g rg rb v) w w' ∧ (v'.ownBlock = v.ownBlock ∨ ∃ b, v'.ownBlock = some b ∧ w.heap.size ≤ b) := by
  have hbd := h.bound
  obtain ⟨bs, a2, s2, a1, s1, hH, hR, hHO, rfl, rfl, hI1, hI2, ⟨hp0, hp1⟩, hn, hqI, hBg, hBrg, hBrb⟩ := h
  obtain ⟨⟨c1, b1⟩, ⟨c2, b2⟩⟩ := hR.blks
  have hgr : g ≠ rg := Blk.ne hH.1 b1 (by decide)
  have hgb : g ≠ rb := Blk.ne hH.1 b2 (by decide)
  have hvr : v.ownBlock ≠ some rg := own_ne' hH.2.2.2.1 b1 (by decide)
  have hvb : v.ownBlock ≠ some rb := own_ne' hH.2.2.2.1 b2 (by decide)
  have hmI : I64 (max (clNow a2 s2) t) := by have := I64.clNow (s := s2) hI2; unfold I64 at *; omega
  have HN := hid' (clNow_raise a2 s2 t)
  obtain ⟨lag, hlag⟩ : ∃ lag, lag = satSub (max (clNow a2 s2) t) t := ⟨_, rfl⟩
  have hlI : I64 lag := by rw [hlag]; exact I64.satSub _ _
  rw [← hlag]
  -- the box of the record
  have hbox := Blk.new_ w 106 #[.int .i64 kind, .int .i64 t, .string txt]
  have hB0 := bel_alloc (bel_refl w) (.cells #[.int .i64 kind, .int .i64 t, .string txt] 106)
  have hH1 := hH.below hB0
  have hR1 := hR.below hB0
  have hgl : g < w.heap.size := (hbd.1 g (.inl rfl)).2
  have hgw : g ≠ w.heap.size := by omega
  have HBX := hid' hbox
  have HH1 := hid' hH1
  have HR1 := hid' hR1
  have HB0 := hid' hB0
  have HBD := hid' hbd
  have HHO := hid' hHO
  have HQI := hid' hqI
  have HLG := hid' hlag
  clear hH hR hbox hB0 hH1 hR1 hbd b1 b2 hlag
  go_enter Tryz.func210, Tryz.ntmps210
  go_wp2_with fail
  generalize w.alloc (.cells #[.int .i64 kind, .int .i64 t, .string txt] 106) = w1 at *
  have cb : w1.cell? ⟨w.heap.size, 1, none⟩ = some (.int .i64 t) := by simpa using HBX.out.cell 1
  go_region_held3 (fun w' => w'.cell? ⟨w.heap.size, 1, none⟩ = some (.int .i64 t))
    (first | go_keep | exact hcell)
    ((go_at_call 132; refine (clamp_RaiseI g 4 _ _ a2 s2 t w1.drew HH1.out.1.drew rfl rfl).mono ?_; rintro e w2 ⟨rfl, hb2, hm2⟩; have hcell := hm2.cell cb (Ne.symm hgw)))
  have HB2 := hid' (hb2.cast (cs' := pgCells p rg v (totB bs) (clA a2 s2 t) (clS a2 s2 t) a1 s1) rfl)
  have HM2 := hid' ((Mod.refl (fun k => k = g) w1).drew.trans hm2)
  have HH2 := hid' (HH1.out.put HB2.out HM2.out rfl rfl)
  have HR2 := hid' (HR1.out.mod HM2.out (Ne.symm hgr) (Ne.symm hgb))
  clear hb2 hm2 cb
  have cb : w2.cell? ⟨w.heap.size, 1, none⟩ = some (.int .i64 t) := hcell
  have HN2 := hid' (fun (W : World) (hd : Dr w2 W) => show Calls Tryz.prog 104 #[.pointer (some ⟨g, 4, none⟩)] W fun e w' => e = .returned (.int .i64 (max (clNow a2 s2) t)) ∧ W = w' from by
    have := clamp_NowI g 4 195 _ (clA a2 s2 t) (clS a2 s2 t) W (by obtain ⟨m, rfl⟩ := hd; exact HB2.out.drewN m) rfl rfl
    rwa [HN.out] at this)
  have HSub := hid' (fun (W : World) => show Calls Tryz.prog 211 #[.int .i64 (max (clNow a2 s2) t), .int .i64 t] W fun e w' => e = .returned (.int .i64 lag) ∧ W = w' from by
    rw [HLG.out]; exact sat_Sub _ _ W hmI ht)
  clear hcell
  go_wp2_with fail
  go_quiet (first
    | (go_at_call 104; exact quiet_same (HN2.out _ (by repeat (first | exact Dr.refl _ | apply Dr.step | apply Dr.stepd))) (by repeat (first | exact Dr.refl _ | apply Dr.step | apply Dr.stepd)))
    | (go_at_call 211; exact quiet_same (HSub.out _) (by repeat (first | exact Dr.refl _ | apply Dr.step | apply Dr.stepd))))
  have d1 : w2.cell? ⟨g, 1, none⟩ = some (.pointer (some ⟨rg, 0, none⟩)) := by rw [HB2.out.cell]; rfl
  have hqn := HBD.out.2.2.2.1
  have htot := HHO.out.tot
  by_cases hlt : q.length < n
  · have HPU := hid' (fun (m : Nat) => show Calls Tryz.prog 212 #[.pointer (some ⟨rg, 0, none⟩), .int .i64 lag] (w2.drewN m) fun e w' => e = .returned (.tuple #[.int .i64 0, .bool false]) ∧ RingInt w' rg rb n (q ++ [lag]) ∧ Mod (fun k => k = rg ∨ k = rb) (w2.drewN m) w' from by
      have := ringInt_Push rg rb n q lag (w2.drewN m) (HR2.out.drewN m) (by omega)
      rw [if_pos hlt, if_pos hlt, decide_eq_false (by omega)] at this; exact this)
    have HQ := hid' (show pushQ n q lag = q ++ [lag] by unfold pushQ; rw [if_pos hlt])
    go_wp2_with (first
      | (go_at_call 212; refine (HPU.out _).mono ?_; rintro e w3 ⟨rfl, hR3, hm3⟩
         have HH3 := hid' ((show HistI (w2.drewN nq) g 2 195 _ B v bs from HH2.out).mod hm3 (by omega) (by rintro k hk (rfl | rfl); exact hvr hk; exact hvb hk))
         have HR3 := hid' hR3
         have HM3 := hid' hm3
         clear hR3 hm3)
      | (go_at_call 214; refine (HH3.out.add lag (by omega)).mono ?_; rintro e w4 ⟨rfl, v4, hH4, hM4, hv4⟩))
    have HHO4 := hid' (HHO.out.add lag)
    have HQI4 := hid' (show ∀ x ∈ q ++ [lag], I64 x from fun x hx => by
      rcases List.mem_append.1 hx with h | h
      · exact HQI.out x h
      · rw [List.mem_singleton] at h; rw [h]; exact hlI)
    have hne4 := fun k (e : k = rg ∨ k = rb) (h : k = g ∨ v.ownBlock = some k) => show False from by
      rcases e with rfl | rfl <;> rcases h with h | h
      · exact hgr h.symm
      · exact hvr h
      · exact hgb h.symm
      · exact hvb h
    have hR4 : RingInt w4 rg rb n (q ++ [lag]) := HR3.out.mod hM4 (fun h => hne4 rg (.inl rfl) h) (fun h => hne4 rb (.inr rfl) h)
    have hqI4 : ∀ x ∈ (q ++ [lag]), I64 x := HQI4.out
    have HG4 := hid' (show PGen w4 B g rg rb v4 p n (q ++ [lag]) (clNow a1 s1) (max (clNow a2 s2) t) from ⟨addB lag bs, clA a2 s2 t, clS a2 s2 t, a1, s1, hH4, hR4, HHO4.out, rfl, HN.out, hI1, I64.clA hI2 ht, ⟨hp0, hp1⟩, hn, hqI4, hBg, hBrg, hBrb⟩)
    have HB4 := hid' (show Blk w4 g 195 (pgCells p rg v4 (totB (addB lag bs)) (clA a2 s2 t) (clS a2 s2 t) a1 s1) from hH4.1)
    have HLA := hid' (fun (W : World) (hd : Dr w4 W) => percent_Lag (HG4.out.below hd.below))
    have HNO := hid' (fun (W : World) (hb : Below w4.heap.size w4 W) => show Calls Tryz.prog 104 #[.pointer (some ⟨g, 4, none⟩)] W fun e w' => e = .returned (.int .i64 (max (clNow a2 s2) t)) ∧ W = w' from by
      have := clamp_NowI g 4 195 _ (clA a2 s2 t) (clS a2 s2 t) W (HB4.out.below hb) rfl rfl
      rwa [HN.out] at this)
    have hlI4 := I64.pLag hqI4 p
    have HAF := hid' (fun (W : World) => bounded_After (max (clNow a2 s2) t) (pLag (q ++ [lag]) p) W hmI hlI4)
    have HRA := hid' (fun (W : World) (hb : Below w4.heap.size w4 W) => show Calls Tryz.prog 132 #[.pointer (some ⟨g, 6, none⟩), .int .i64 (bAfter (max (clNow a2 s2) t) (pLag (q ++ [lag]) p))] W fun e w' => (∃ b, e = .returned (.bool b)) ∧
        PGen w' B g rg rb v4 p n (q ++ [lag]) (max (clNow a1 s1) (bAfter (max (clNow a2 s2) t) (pLag (q ++ [lag]) p))) (max (clNow a2 s2) t) ∧ Mod (fun k => k = g) w4 w' from by
      refine (clamp_RaiseI g 6 195 _ a1 s1 (bAfter (max (clNow a2 s2) t) (pLag (q ++ [lag]) p)) W (HB4.out.below hb) rfl rfl).mono ?_
      rintro e w' ⟨rfl, hb7, hm7⟩
      refine ⟨⟨_, rfl⟩, ⟨addB lag bs, clA a2 s2 t, clS a2 s2 t, _, _, (hH4.below hb).put (cs' := pgCells p rg v4 (totB (addB lag bs)) (clA a2 s2 t) (clS a2 s2 t) (clA a1 s1 (bAfter (max (clNow a2 s2) t) (pLag (q ++ [lag]) p))) (clS a1 s1 (bAfter (max (clNow a2 s2) t) (pLag (q ++ [lag]) p)))) hb7 hm7 rfl rfl, (hR4.below hb).mod hm7 (Ne.symm hgr) (Ne.symm hgb), HHO4.out, clNow_raise a1 s1 _, HN.out, I64.clA hI1 (I64.bAfter _ _), I64.clA hI2 ht, ⟨hp0, hp1⟩, hn, hqI4, hBg, hBrg, hBrb⟩, (Mod.of_below hb).trans hm7⟩)
    have HM4 := hid' (And.intro hM4 hv4)
    clear hR4 hH4 hqI4 hM4 hv4 hlI4 hne4
    go_region_with (first
      | (go_at_call 208; refine (HLA.out _ (by repeat (first | exact Dr.refl _ | apply Dr.step | apply Dr.stepd))).mono ?_; rintro e w6 ⟨rfl, hB6⟩; have hB46 : Below w4.heap.size w4 w6 := bel_then (by first | exact bel_drewN (bel_refl _) _ | exact bel_drew (bel_refl _) | exact bel_refl _) hB6; clear hB6)
      | (go_at_call 104; refine (HNO.out _ (by repeat (first | assumption | apply bel_alloc | apply bel_drewN | apply bel_drew | exact bel_refl _))).mono ?_; rintro e w' ⟨rfl, rfl⟩)
      | (go_at_call 215; refine (HAF.out _).mono ?_; rintro e w' ⟨rfl, rfl⟩)
      | (go_at_call 132; refine (HRA.out _ (by repeat (first | assumption | apply bel_alloc | apply bel_drewN | apply bel_drew | exact bel_refl _))).mono ?_; rintro e w7 ⟨⟨b7, rfl⟩, hG7, hm7⟩))
    all_goals
      go_end0
      refine ⟨rfl, v4, by rw [HQ.out]; exact hG7, ?_, ?_⟩
      · exact (((((Mod.of_below HB0.out).then_ HM2.out (fun i _ h => .inl h)).drewN nq).then_ HM3.out (fun i _ h => by rcases h with h | h; exact .inr (.inl h); exact .inr (.inr (.inl h)))).then_ HM4.out.1 (fun i _ h => by rcases h with h | h; exact .inl h; exact .inr (.inr (.inr h)))).then_ hm7 (fun i _ h => .inl h)
      · rcases HM4.out.2 with h | ⟨b, h, hle⟩
        · exact .inl h
        · refine .inr ⟨b, h, ?_⟩
          have s1 := HB0.out.size
          have s2 := HM2.out.size
          have s3 := HM3.out.size
          simp at s3
          omega
  · obtain ⟨y, ys, hys⟩ : ∃ y ys, q = y :: ys := by
      cases q with
      | nil => exact absurd HBD.out.2.2.2.2 hlt
      | cons y ys => exact ⟨y, ys, rfl⟩
    have HPU := hid' (fun (m : Nat) => show Calls Tryz.prog 212 #[.pointer (some ⟨rg, 0, none⟩), .int .i64 lag] (w2.drewN m) fun e w' => e = .returned (.tuple #[.int .i64 y, .bool true]) ∧ RingInt w' rg rb n (ys ++ [lag]) ∧ Mod (fun k => k = rg ∨ k = rb) (w2.drewN m) w' from by
      have := ringInt_Push rg rb n q lag (w2.drewN m) (HR2.out.drewN m) (by omega)
      rw [if_neg hlt, if_neg hlt, decide_eq_true (by omega), hys] at this; exact this)
    have HQ := hid' (show pushQ n q lag = ys ++ [lag] by unfold pushQ; rw [if_neg hlt, hys]; rfl)
    have hrem : HistOf (remB y bs) ys := by
      have := HHO.out.rem y
      rw [hys, List.erase_cons_head] at this; exact this
    have hyl : ys.length < 9000 := by rw [hys] at hql; simp at hql; omega
    have hrt := hrem.tot
    have HHO4 := hid' (hrem.add lag)
    have HQI4 := hid' (show ∀ x ∈ ys ++ [lag], I64 x from fun x hx => by
      rcases List.mem_append.1 hx with h | h
      · exact HQI.out x (by rw [hys]; exact List.mem_cons_of_mem _ h)
      · rw [List.mem_singleton] at h; rw [h]; exact hlI)
    clear hrem hys
    go_wp2_with (first
      | (go_at_call 212; refine (HPU.out _).mono ?_; rintro e w3 ⟨rfl, hR3, hm3⟩
         have HH3 := hid' ((show HistI (w2.drewN nq) g 2 195 _ B v bs from HH2.out).mod hm3 (by omega) (by rintro k hk (rfl | rfl); exact hvr hk; exact hvb hk))
         have HR3 := hid' hR3
         have HM3 := hid' hm3
         clear hR3 hm3)
      | (go_at_call 213; refine (HH3.out.remove y).mono ?_; rintro e w3b ⟨rfl, v3, hH3b, hM3b, hv3b⟩
         have HR3 := hid' (show RingInt w3b rg rb n (ys ++ [lag]) from HR3.out.mod hM3b (by rintro (h | h); exact hgr h.symm; exact hvr h) (by rintro (h | h); exact hgb h.symm; exact hvb h))
         have HM3b := hid' (And.intro hM3b hv3b)
         clear hM3b hv3b)
      | (go_at_call 214; refine (hH3b.add lag (by omega)).mono ?_; rintro e w4 ⟨rfl, v4, hH4, hM4, hv4⟩; rw [HM3b.out.2] at hM4 hv4))
    have hne4 := fun k (e : k = rg ∨ k = rb) (h : k = g ∨ v.ownBlock = some k) => show False from by
      rcases e with rfl | rfl <;> rcases h with h | h
      · exact hgr h.symm
      · exact hvr h
      · exact hgb h.symm
      · exact hvb h
    have hR4 : RingInt w4 rg rb n (ys ++ [lag]) := HR3.out.mod hM4 (fun h => hne4 rg (.inl rfl) h) (fun h => hne4 rb (.inr rfl) h)
    have hqI4 : ∀ x ∈ (ys ++ [lag]), I64 x := HQI4.out
    have HG4 := hid' (show PGen w4 B g rg rb v4 p n (ys ++ [lag]) (clNow a1 s1) (max (clNow a2 s2) t) from ⟨addB lag (remB y bs), clA a2 s2 t, clS a2 s2 t, a1, s1, hH4, hR4, HHO4.out, rfl, HN.out, hI1, I64.clA hI2 ht, ⟨hp0, hp1⟩, hn, hqI4, hBg, hBrg, hBrb⟩)
    have HB4 := hid' (show Blk w4 g 195 (pgCells p rg v4 (totB (addB lag (remB y bs))) (clA a2 s2 t) (clS a2 s2 t) a1 s1) from hH4.1)
    have HLA := hid' (fun (W : World) (hd : Dr w4 W) => percent_Lag (HG4.out.below hd.below))
    have HNO := hid' (fun (W : World) (hb : Below w4.heap.size w4 W) => show Calls Tryz.prog 104 #[.pointer (some ⟨g, 4, none⟩)] W fun e w' => e = .returned (.int .i64 (max (clNow a2 s2) t)) ∧ W = w' from by
      have := clamp_NowI g 4 195 _ (clA a2 s2 t) (clS a2 s2 t) W (HB4.out.below hb) rfl rfl
      rwa [HN.out] at this)
    have hlI4 := I64.pLag hqI4 p
    have HAF := hid' (fun (W : World) => bounded_After (max (clNow a2 s2) t) (pLag (ys ++ [lag]) p) W hmI hlI4)
    have HRA := hid' (fun (W : World) (hb : Below w4.heap.size w4 W) => show Calls Tryz.prog 132 #[.pointer (some ⟨g, 6, none⟩), .int .i64 (bAfter (max (clNow a2 s2) t) (pLag (ys ++ [lag]) p))] W fun e w' => (∃ b, e = .returned (.bool b)) ∧
        PGen w' B g rg rb v4 p n (ys ++ [lag]) (max (clNow a1 s1) (bAfter (max (clNow a2 s2) t) (pLag (ys ++ [lag]) p))) (max (clNow a2 s2) t) ∧ Mod (fun k => k = g) w4 w' from by
      refine (clamp_RaiseI g 6 195 _ a1 s1 (bAfter (max (clNow a2 s2) t) (pLag (ys ++ [lag]) p)) W (HB4.out.below hb) rfl rfl).mono ?_
      rintro e w' ⟨rfl, hb7, hm7⟩
      refine ⟨⟨_, rfl⟩, ⟨addB lag (remB y bs), clA a2 s2 t, clS a2 s2 t, _, _, (hH4.below hb).put (cs' := pgCells p rg v4 (totB (addB lag (remB y bs))) (clA a2 s2 t) (clS a2 s2 t) (clA a1 s1 (bAfter (max (clNow a2 s2) t) (pLag (ys ++ [lag]) p))) (clS a1 s1 (bAfter (max (clNow a2 s2) t) (pLag (ys ++ [lag]) p)))) hb7 hm7 rfl rfl, (hR4.below hb).mod hm7 (Ne.symm hgr) (Ne.symm hgb), HHO4.out, clNow_raise a1 s1 _, HN.out, I64.clA hI1 (I64.bAfter _ _), I64.clA hI2 ht, ⟨hp0, hp1⟩, hn, hqI4, hBg, hBrg, hBrb⟩, (Mod.of_below hb).trans hm7⟩)
    have HM4 := hid' (And.intro hM4 hv4)
    clear hR4 hH4 hqI4 hM4 hv4 hlI4 hne4
    go_region_with (first
      | (go_at_call 208; refine (HLA.out _ (by repeat (first | exact Dr.refl _ | apply Dr.step | apply Dr.stepd))).mono ?_; rintro e w6 ⟨rfl, hB6⟩; have hB46 : Below w4.heap.size w4 w6 := bel_then (by first | exact bel_drewN (bel_refl _) _ | exact bel_drew (bel_refl _) | exact bel_refl _) hB6; clear hB6)
      | (go_at_call 104; refine (HNO.out _ (by repeat (first | assumption | apply bel_alloc | apply bel_drewN | apply bel_drew | exact bel_refl _))).mono ?_; rintro e w' ⟨rfl, rfl⟩)
      | (go_at_call 215; refine (HAF.out _).mono ?_; rintro e w' ⟨rfl, rfl⟩)
      | (go_at_call 132; refine (HRA.out _ (by repeat (first | assumption | apply bel_alloc | apply bel_drewN | apply bel_drew | exact bel_refl _))).mono ?_; rintro e w7 ⟨⟨b7, rfl⟩, hG7, hm7⟩))
    all_goals
      go_end0
      refine ⟨rfl, v4, by rw [HQ.out]; exact hG7, ?_, ?_⟩
      · exact ((((((Mod.of_below HB0.out).then_ HM2.out (fun i _ h => .inl h)).drewN nq).then_ HM3.out (fun i _ h => by rcases h with h | h; exact .inr (.inl h); exact .inr (.inr (.inl h)))).then_ HM3b.out.1 (fun i _ h => by rcases h with h | h; exact .inl h; exact .inr (.inr (.inr h)))).then_ HM4.out.1 (fun i _ h => by rcases h with h | h; exact .inl h; exact .inr (.inr (.inr h)))).then_ hm7 (fun i _ h => .inl h)
      · rcases HM4.out.2 with h | ⟨b, h, hle⟩
        · exact .inl h
        · refine .inr ⟨b, h, ?_⟩
          have s1 := HB0.out.size
          have s2 := HM2.out.size
          have s3 := HM3.out.size
          have s4 := HM3b.out.1.size
          simp at s3
          omega
end Go.Proofs.YtockkjhciojgbaaGreatDoor
