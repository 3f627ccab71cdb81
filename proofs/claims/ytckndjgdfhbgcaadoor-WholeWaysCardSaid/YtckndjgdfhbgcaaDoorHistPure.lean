
/- Numbers by how often they are there: what adding, removing and ranking come to, against a row of numbers. No condition. -/
import Derived.Test.YtckndjgdfhbgcaaDoorLib
namespace Go.Proofs.YtckndjgdfhbgcaaDoor
set_option maxRecDepth 100000
set_option linter.unusedSimpArgs false
set_option linter.unusedVariables false

/-! ### bins: a number, and how often it is there -/
def sumB (p : Int → Bool) : List (Int × Nat) → Nat
  | [] => 0
  | b :: bs => (if p b.1 = true then b.2 else 0) + sumB p bs
def cntB (bs : List (Int × Nat)) (n : Int) : Nat := sumB (fun x => decide (x = n)) bs
def belowB (bs : List (Int × Nat)) (n : Int) : Nat := sumB (fun x => decide (x ≤ n)) bs
def totB (bs : List (Int × Nat)) : Nat := sumB (fun _ => true) bs
def posB (n : Int) : List (Int × Nat) → Nat
  | [] => 0
  | b :: bs => if b.1 < n then posB n bs + 1 else 0
def addB (n : Int) : List (Int × Nat) → List (Int × Nat)
  | [] => [(n, 1)]
  | b :: bs => if b.1 < n then b :: addB n bs else if b.1 = n then (b.1, b.2 + 1) :: bs else (n, 1) :: b :: bs
def remB (n : Int) : List (Int × Nat) → List (Int × Nat)
  | [] => []
  | b :: bs => if b.1 < n then b :: remB n bs else if b.1 = n then (if b.2 = 1 then bs else (b.1, b.2 - 1) :: bs) else b :: bs
def isB (n : Int) : List (Int × Nat) → Bool
  | [] => false
  | b :: bs => if b.1 < n then isB n bs else decide (b.1 = n)
def rankB : List (Int × Nat) → Nat → Option Int
  | [], _ => none
  | b :: bs, k => if k ≤ b.2 then some b.1 else rankB bs (k - b.2)
def SortB (bs : List (Int × Nat)) : Prop := List.Pairwise (fun a b : Int × Nat => a.1 < b.1) bs ∧ ∀ b ∈ bs, 0 < b.2
def HistOf (bs : List (Int × Nat)) (l : List Int) : Prop := SortB bs ∧ ∀ n, cntB bs n = l.count n

theorem SortB.tail {b : Int × Nat} {bs : List (Int × Nat)} (h : SortB (b :: bs)) : SortB bs := ⟨(List.pairwise_cons.1 h.1).2, fun x hx => h.2 x (List.mem_cons_of_mem _ hx)⟩
theorem SortB.head {b : Int × Nat} {bs : List (Int × Nat)} (h : SortB (b :: bs)) : ∀ x ∈ bs, b.1 < x.1 := (List.pairwise_cons.1 h.1).1
theorem sumB_none {p : Int → Bool} : ∀ {bs : List (Int × Nat)}, (∀ b ∈ bs, p b.1 = false) → sumB p bs = 0
  | [], _ => rfl
  | b :: bs, h => by
    rw [sumB, h b List.mem_cons_self, sumB_none (fun x hx => h x (List.mem_cons_of_mem _ hx))]; rfl
theorem cntB_cons (b : Int × Nat) (bs : List (Int × Nat)) (n : Int) : cntB (b :: bs) n = (if b.1 = n then b.2 else 0) + cntB bs n := by
  unfold cntB; rw [sumB]; by_cases h : b.1 = n <;> simp [h]
theorem cntB_far {bs : List (Int × Nat)} {n : Int} (h : ∀ x ∈ bs, n < x.1) : cntB bs n = 0 :=
  sumB_none (fun b hb => by have := h b hb; simp; omega)
theorem isB_cnt : ∀ {bs : List (Int × Nat)} (n : Int), SortB bs → isB n bs = decide (0 < cntB bs n)
  | [], n, _ => rfl
  | b :: bs, n, h => by
    rw [isB, cntB_cons]
    by_cases h1 : b.1 < n
    · rw [if_pos h1, if_neg (by omega), Nat.zero_add, isB_cnt n h.tail]
    · rw [if_neg h1]
      by_cases h2 : b.1 = n
      · have := h.2 b List.mem_cons_self
        rw [if_pos h2, decide_eq_true h2]; symm; rw [decide_eq_true_eq]; omega
      · rw [if_neg h2, decide_eq_false h2, cntB_far (fun x hx => by have := h.head x hx; omega)]; rfl
theorem mem_addB {n : Int} : ∀ {bs : List (Int × Nat)} {x : Int × Nat}, x ∈ addB n bs → x.1 = n ∨ x ∈ bs
  | [], x, h => by rw [addB, List.mem_singleton] at h; exact .inl (by rw [h])
  | b :: bs, x, h => by
    rw [addB] at h
    split at h
    · rcases List.mem_cons.1 h with h | h
      · exact .inr (by rw [h]; exact List.mem_cons_self)
      · rcases mem_addB h with h | h
        · exact .inl h
        · exact .inr (List.mem_cons_of_mem _ h)
    · split at h
      · rename_i e
        rcases List.mem_cons.1 h with h | h
        · exact .inl (by rw [h]; exact e)
        · exact .inr (List.mem_cons_of_mem _ h)
      · rcases List.mem_cons.1 h with h | h
        · exact .inl (by rw [h])
        · exact .inr h
theorem addB_sort (n : Int) : ∀ {bs : List (Int × Nat)}, SortB bs → SortB (addB n bs)
  | [], _ => ⟨by simp [addB], fun b hb => by rw [addB, List.mem_singleton] at hb; subst hb; exact Nat.one_pos⟩
  | b :: bs, h => by
    have hb := h.2 b List.mem_cons_self
    rw [addB]
    split
    · have h2 := addB_sort n h.tail
      refine ⟨List.pairwise_cons.2 ⟨fun x hx => ?_, h2.1⟩, fun x hx => ?_⟩
      · rcases mem_addB hx with hx | hx
        · rw [hx]; assumption
        · exact h.head x hx
      · rcases List.mem_cons.1 hx with hx | hx
        · rw [hx]; exact hb
        · exact h2.2 x hx
    · split
      · refine ⟨List.pairwise_cons.2 ⟨fun x hx => h.head x hx, h.tail.1⟩, fun x hx => ?_⟩
        rcases List.mem_cons.1 hx with hx | hx
        · rw [hx]; exact Nat.succ_pos _
        · exact h.tail.2 x hx
      · refine ⟨List.pairwise_cons.2 ⟨fun x hx => ?_, h.1⟩, fun x hx => ?_⟩
        · show n < x.1
          rcases List.mem_cons.1 hx with hx | hx
          · rw [hx]; omega
          · have := h.head x hx; omega
        · rcases List.mem_cons.1 hx with hx | hx
          · rw [hx]; exact Nat.one_pos
          · exact h.2 x hx
theorem addB_cnt (n m : Int) : ∀ {bs : List (Int × Nat)}, cntB (addB n bs) m = cntB bs m + if n = m then 1 else 0
  | [] => by rw [addB, cntB_cons]; simp [cntB, sumB]
  | b :: bs => by
    rw [addB]
    split
    · rw [cntB_cons, addB_cnt n m, cntB_cons]; omega
    · split
      · rename_i e
        rw [cntB_cons, cntB_cons]
        by_cases hm : n = m
        · rw [if_pos hm, if_pos (by show b.1 = m; omega), if_pos (by omega)]; show b.2 + 1 + _ = _; omega
        · rw [if_neg hm, if_neg (by show ¬ b.1 = m; omega), if_neg (by omega)]; omega
      · rw [cntB_cons, cntB_cons]; show (if n = m then 1 else 0) + _ = _; omega
theorem mem_remB {n : Int} : ∀ {bs : List (Int × Nat)} {x : Int × Nat}, x ∈ remB n bs → ∃ y ∈ bs, x.1 = y.1
  | [], x, h => by rw [remB] at h; cases h
  | b :: bs, x, h => by
    rw [remB] at h
    split at h
    · rcases List.mem_cons.1 h with h | h
      · exact ⟨b, List.mem_cons_self, by rw [h]⟩
      · obtain ⟨y, hy, e⟩ := mem_remB h
        exact ⟨y, List.mem_cons_of_mem _ hy, e⟩
    · split at h
      · split at h
        · exact ⟨x, List.mem_cons_of_mem _ h, rfl⟩
        · rcases List.mem_cons.1 h with h | h
          · exact ⟨b, List.mem_cons_self, by rw [h]⟩
          · exact ⟨x, List.mem_cons_of_mem _ h, rfl⟩
      · exact ⟨x, h, rfl⟩
theorem remB_sort (n : Int) : ∀ {bs : List (Int × Nat)}, SortB bs → SortB (remB n bs)
  | [], h => h
  | b :: bs, h => by
    have hb := h.2 b List.mem_cons_self
    rw [remB]
    split
    · have h2 := remB_sort n h.tail
      refine ⟨List.pairwise_cons.2 ⟨fun x hx => ?_, h2.1⟩, fun x hx => ?_⟩
      · obtain ⟨y, hy, e⟩ := mem_remB hx
        rw [e]; exact h.head y hy
      · rcases List.mem_cons.1 hx with hx | hx
        · rw [hx]; exact hb
        · exact h2.2 x hx
    · split
      · split
        · exact h.tail
        · refine ⟨List.pairwise_cons.2 ⟨fun x hx => h.head x hx, h.tail.1⟩, fun x hx => ?_⟩
          rcases List.mem_cons.1 hx with hx | hx
          · rw [hx]; show 0 < b.2 - 1; omega
          · exact h.tail.2 x hx
      · exact h
theorem remB_cnt (n m : Int) : ∀ {bs : List (Int × Nat)}, SortB bs → cntB (remB n bs) m = cntB bs m - if n = m then 1 else 0
  | [], _ => by simp [remB, cntB, sumB]
  | b :: bs, h => by
    have hb := h.2 b List.mem_cons_self
    rw [remB]
    split
    · rw [cntB_cons, remB_cnt n m h.tail, cntB_cons]
      by_cases hm : n = m
      · rw [if_pos hm, if_neg (by omega)]; omega
      · rw [if_neg hm]; omega
    · split
      · rename_i e
        split
        · rename_i e2
          rw [cntB_cons]
          by_cases hm : n = m
          · rw [if_pos hm, if_pos (by omega)]; omega
          · rw [if_neg hm, if_neg (by omega)]; omega
        · rw [cntB_cons, cntB_cons]
          by_cases hm : n = m
          · rw [if_pos hm, if_pos (by show b.1 = m; omega), if_pos (by omega)]; show b.2 - 1 + _ = _; omega
          · rw [if_neg hm, if_neg (by show ¬ b.1 = m; omega), if_neg (by omega)]; omega
      · rename_i h1 h2
        by_cases hm : n = m
        · have : cntB (b :: bs) m = 0 := cntB_far (fun x hx => by
            rcases List.mem_cons.1 hx with hx | hx
            · rw [hx]; omega
            · have := h.head x hx; omega)
          omega
        · rw [if_neg hm]; omega

theorem HistOf.nil : HistOf [] [] := ⟨⟨List.Pairwise.nil, fun b hb => by cases hb⟩, fun n => rfl⟩
theorem HistOf.add {bs : List (Int × Nat)} {l : List Int} (h : HistOf bs l) (n : Int) : HistOf (addB n bs) (l ++ [n]) :=
  ⟨addB_sort n h.1, fun m => by rw [addB_cnt, h.2 m, List.count_append, List.count_singleton]; by_cases e : n = m <;> simp [e]⟩
theorem HistOf.perm {bs : List (Int × Nat)} {l l' : List Int} (h : HistOf bs l) (hp : l.Perm l') : HistOf bs l' := ⟨h.1, fun n => (h.2 n).trans (hp.count_eq n)⟩
theorem HistOf.rem {bs : List (Int × Nat)} {l : List Int} (h : HistOf bs l) (n : Int) : HistOf (remB n bs) (l.erase n) :=
  ⟨remB_sort n h.1, fun m => by rw [remB_cnt n m h.1, h.2 m, List.count_erase]; by_cases e : n = m <;> simp [e]⟩
theorem HistOf.is {bs : List (Int × Nat)} {l : List Int} (h : HistOf bs l) (n : Int) : isB n bs = decide (n ∈ l) := by
  rw [isB_cnt n h.1, h.2 n]
  exact decide_eq_decide.2 List.count_pos_iff
theorem filter_split (p : Int → Bool) (a : Int) : ∀ l : List Int, l.countP p = (if p a = true then l.count a else 0) + (l.filter (fun x => decide (x ≠ a))).countP p
  | [] => by simp
  | x :: l => by
    have := filter_split p a l
    by_cases hx : x = a
    · subst hx
      rw [List.filter_cons_of_neg (by simp), List.countP_cons, this]
      by_cases hp : p x = true
      · simp [hp]; omega
      · simp [hp]
    · rw [List.filter_cons_of_pos (by simp [hx]), List.countP_cons, List.countP_cons, this, List.count_cons_of_ne hx]; omega
theorem HistOf.sum (p : Int → Bool) : ∀ {bs : List (Int × Nat)} {l : List Int}, HistOf bs l → sumB p bs = l.countP p
  | [], l, h => by
    have : l = [] := List.eq_nil_iff_forall_not_mem.2 (fun x hx => by
      have := h.2 x
      have h2 := List.count_pos_iff.2 hx
      rw [← this] at h2; simp [cntB, sumB] at h2)
    subst this; rfl
  | b :: bs, l, h => by
    have hc := h.2 b.1
    rw [cntB_cons, if_pos rfl, cntB_far h.1.head, Nat.add_zero] at hc
    have ht : HistOf bs (l.filter (fun x => decide (x ≠ b.1))) := ⟨h.1.tail, fun n => by
      by_cases hn : n = b.1
      · subst hn
        rw [cntB_far h.1.head]; symm
        rw [List.count_eq_zero]; simp
      · have := h.2 n
        rw [cntB_cons, if_neg (fun e => hn e.symm), Nat.zero_add] at this
        rw [this, List.count_filter (by simpa using hn)]⟩
    rw [sumB, HistOf.sum p ht, filter_split p b.1 l, hc]
def belowL (l : List Int) (n : Int) : Nat := l.countP (fun x => decide (x ≤ n))
theorem HistOf.below {bs : List (Int × Nat)} {l : List Int} (h : HistOf bs l) (n : Int) : belowB bs n = belowL l n := h.sum _
theorem HistOf.tot {bs : List (Int × Nat)} {l : List Int} (h : HistOf bs l) : totB bs = l.length := by
  unfold totB; rw [h.sum]; simp
theorem HistOf.mem {bs : List (Int × Nat)} {l : List Int} (h : HistOf bs l) {b : Int × Nat} (hb : b ∈ bs) : b.1 ∈ l := by
  have h1 := h.is b.1
  have h2 : isB b.1 bs = true := by
    rw [isB_cnt _ h.1, decide_eq_true_eq]
    clear h1
    have hs := h.1
    clear h
    induction bs with
    | nil => cases hb
    | cons a bs ih =>
      rw [cntB_cons]
      rcases List.mem_cons.1 hb with e | e
      · have := hs.2 a List.mem_cons_self
        rw [if_pos (by rw [e]), ← e]; rw [← e] at this; omega
      · have := ih e hs.tail; omega
  rw [h2] at h1
  simpa using h1.symm
theorem belowB_cons (b : Int × Nat) (bs : List (Int × Nat)) (n : Int) : belowB (b :: bs) n = (if b.1 ≤ n then b.2 else 0) + belowB bs n := by
  unfold belowB; rw [sumB]; by_cases h : b.1 ≤ n <;> simp [h]
theorem totB_cons (b : Int × Nat) (bs : List (Int × Nat)) : totB (b :: bs) = b.2 + totB bs := by unfold totB; rw [sumB]; simp
theorem rank_some : ∀ {bs : List (Int × Nat)} {k : Nat} {m : Int}, SortB bs → 1 ≤ k → rankB bs k = some m → (∃ b ∈ bs, b.1 = m) ∧ k ≤ belowB bs m ∧ ∀ b ∈ bs, b.1 < m → belowB bs b.1 < k
  | [], k, m, _, _, h => by cases h
  | b :: bs, k, m, hs, hk, h => by
    rw [rankB] at h
    split at h
    · injection h with h
      subst h
      refine ⟨⟨b, List.mem_cons_self, rfl⟩, by rw [belowB_cons, if_pos (Int.le_refl _)]; omega, fun x hx hlt => ?_⟩
      rcases List.mem_cons.1 hx with e | e
      · rw [e] at hlt; omega
      · have := hs.head x e; omega
    · obtain ⟨⟨y, hy, e⟩, h2, h3⟩ := rank_some hs.tail (by omega) h
      have hbm : b.1 < m := by have := hs.head y hy; omega
      refine ⟨⟨y, List.mem_cons_of_mem _ hy, e⟩, by rw [belowB_cons, if_pos (by omega)]; omega, fun x hx hlt => ?_⟩
      rcases List.mem_cons.1 hx with e | e
      · subst e
        rw [belowB_cons, if_pos (Int.le_refl _)]
        have : belowB bs x.1 = 0 := sumB_none (fun z hz => by have := hs.head z hz; simp; omega)
        omega
      · have h4 := h3 x e hlt
        have := hs.head x e
        rw [belowB_cons, if_pos (by omega)]; omega
theorem rank_none : ∀ {bs : List (Int × Nat)} {k : Nat}, rankB bs k = none → 1 ≤ k → totB bs < k
  | [], k, _, hk => by show 0 < k; omega
  | b :: bs, k, h, hk => by
    rw [rankB] at h
    split at h
    · cases h
    · have := rank_none h (by omega)
      rw [totB_cons]; omega

/-! ### the least number of a row that has a property -/
def lstS (P : Int → Bool) (acc : Int × Bool) (x : Int) : Int × Bool := if P x = true ∧ (acc.2 = false ∨ x < acc.1) then (x, true) else acc
def lstOf (P : Int → Bool) (l : List Int) : Int × Bool := l.foldl (lstS P) (0, false)
theorem lst_snoc (P : Int → Bool) (l : List Int) (x : Int) : lstOf P (l ++ [x]) = lstS P (lstOf P l) x := by unfold lstOf; rw [List.foldl_append]; rfl
theorem list_rev_ind {α : Type} {p : List α → Prop} (h0 : p []) (h1 : ∀ l x, p l → p (l ++ [x])) : ∀ l, p l := fun l => by
  have : ∀ n (l : List α), l.length = n → p l := by
    intro n
    induction n with
    | zero => intro l hl; rw [List.eq_nil_of_length_eq_zero hl]; exact h0
    | succ n ih =>
      intro l hl
      have hne : l ≠ [] := by intro e; subst e; cases hl
      rw [← List.dropLast_concat_getLast hne]
      exact h1 _ _ (ih _ (by rw [List.length_dropLast, hl]; rfl))
  exact this l.length l rfl
theorem lst_spec (P : Int → Bool) (l : List Int) : ((lstOf P l).2 = false → lstOf P l = (0, false) ∧ ∀ x ∈ l, P x = false) ∧ ((lstOf P l).2 = true → (lstOf P l).1 ∈ l ∧ P (lstOf P l).1 = true ∧ ∀ x ∈ l, P x = true → (lstOf P l).1 ≤ x) := by
  induction l using list_rev_ind with
  | h0 => exact ⟨fun _ => ⟨rfl, fun x hx => by cases hx⟩, fun h => by cases h⟩
  | h1 l x ih =>
    obtain ⟨i1, i2⟩ := ih
    rw [lst_snoc]
    unfold lstS
    split
    · rename_i hc
      refine ⟨fun h => (by cases h), fun _ => ⟨by simp, hc.1, fun y hy hp => ?_⟩⟩
      show x ≤ y
      rcases List.mem_append.1 hy with hy | hy
      · cases hb : (lstOf P l).2
        · have := (i1 hb).2 y hy; rw [this] at hp; cases hp
        · rcases hc.2 with e | e
          · rw [hb] at e; cases e
          · have := (i2 hb).2.2 y hy hp; omega
      · rw [List.mem_singleton] at hy; omega
    · rename_i hc
      refine ⟨fun h => ⟨(i1 h).1, fun y hy => ?_⟩, fun h => ⟨List.mem_append_left _ (i2 h).1, (i2 h).2.1, fun y hy hp => ?_⟩⟩
      · rcases List.mem_append.1 hy with hy | hy
        · exact (i1 h).2 y hy
        · rw [List.mem_singleton] at hy; subst hy
          cases hp : P y
          · rfl
          · exact absurd ⟨hp, .inl h⟩ hc
      · rcases List.mem_append.1 hy with hy | hy
        · exact (i2 h).2.2 y hy hp
        · rw [List.mem_singleton] at hy; subst hy
          apply Classical.byContradiction
          intro hlt
          exact hc ⟨hp, .inr (by omega)⟩
def rankV (o : Option Int) : Int × Bool := match o with | some m => (m, true) | none => (0, false)
theorem rank_least {bs : List (Int × Nat)} {l : List Int} (h : HistOf bs l) {k : Nat} (hk : 1 ≤ k) (P : Int → Bool) (hP : ∀ x ∈ l, P x = decide (k ≤ belowL l x)) : rankV (rankB bs k) = lstOf P l := by
  obtain ⟨s1, s2⟩ := lst_spec P l
  cases hr : rankB bs k with
  | none =>
    have h1 := rank_none hr hk
    rw [h.tot] at h1
    cases hb : (lstOf P l).2
    · exact (s1 hb).1.symm
    · exfalso
      have := (s2 hb)
      have h2 := hP _ this.1
      rw [this.2.1] at h2
      have h3 : k ≤ belowL l (lstOf P l).1 := by simpa using h2.symm
      have h4 : belowL l (lstOf P l).1 ≤ l.length := List.countP_le_length
      omega
  | some m =>
    obtain ⟨⟨b, hb, rfl⟩, h2, h3⟩ := rank_some h.1 hk hr
    rw [h.below] at h2
    have hm := h.mem hb
    have hPb : P b.1 = true := by rw [hP _ hm]; exact decide_eq_true h2
    cases hb2 : (lstOf P l).2
    · have := (s1 hb2).2 _ hm; rw [hPb] at this; cases this
    · obtain ⟨t1, t2, t3⟩ := s2 hb2
      have h5 := t3 _ hm hPb
      show (b.1, true) = lstOf P l
      rw [show lstOf P l = ((lstOf P l).1, (lstOf P l).2) from rfl, hb2]
      congr 1
      apply Classical.byContradiction
      intro hne
      have hlt : (lstOf P l).1 < b.1 := by omega
      -- the number found stands in a bin of its own
      have hin : isB (lstOf P l).1 bs = true := by rw [h.is]; exact decide_eq_true t1
      have : ∃ c ∈ bs, c.1 = (lstOf P l).1 := by
        clear h2 h3 hr s1 s2 hP t3 h5 hne hlt hPb hb2 hm
        rw [isB_cnt _ h.1, decide_eq_true_eq] at hin
        apply Classical.byContradiction
        intro hno
        have : cntB bs (lstOf P l).1 = 0 := sumB_none (fun c hc => by
          rw [decide_eq_false_iff_not]
          exact fun e => hno ⟨c, hc, e⟩)
        omega
      obtain ⟨c, hc, hce⟩ := this
      have h6 := h3 c hc (by omega)
      rw [hce, h.below] at h6
      have h7 := hP _ t1
      rw [t2] at h7
      have h8 : k ≤ belowL l (lstOf P l).1 := by simpa using h7.symm
      omega
end Go.Proofs.YtckndjgdfhbgcaaDoor
