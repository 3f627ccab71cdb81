
/- Rules in words, and back: the plain law. No program. -/
import Derived.Test.YtioaijjmialdoaaGreatDoorConfigPure
namespace Go.Proofs.YtioaijjmialdoaaGreatDoor
set_option maxRecDepth 100000
set_option linter.unusedSimpArgs false
set_option linter.unusedVariables false
set_option linter.unusedSimpArgs false

def wOk (x : List UInt8) : Bool := (rdN x).isSome
def wV (x : List UInt8) : Int := (rdN x).getD 0
theorem wOk_num {x : List UInt8} (h : wOk x = true) : Lib.itoa (wV x) = x ∧ I64 (wV x) := by
  unfold wOk at h
  obtain ⟨n, hn⟩ := Option.isSome_iff_exists.1 h
  have hv : wV x = n := by unfold wV; rw [hn]; rfl
  rw [hv]; exact rdN_some hn
theorem wV_itoa {n : Int} (h : I64 n) : wV (Lib.itoa n) = n ∧ wOk (Lib.itoa n) = true := by
  unfold wV wOk; rw [rdN_itoa h]; exact ⟨rfl, rfl⟩
theorem words_join {t : List (List UInt8)} (h : t.all wOk = true) : joinC 32 t = wordsL (t.map wV) := by
  induction t with
  | nil => rfl
  | cons x t ih =>
    rw [List.all_cons, Bool.and_eq_true] at h
    unfold joinC wordsL at ih ⊢
    rw [List.map_cons, List.flatMap_cons, List.flatMap_cons, ih h.2, (wOk_num h.1).1]
theorem join_words (l : List Int) : wordsL l = joinC 32 (l.map Lib.itoa) := by
  unfold wordsL joinC; rw [List.flatMap_map]
theorem itoa_no (n : Int) (c : UInt8) (h : c.toNat < 45) : c ∉ Lib.itoa n := fun hm => by
  have := itoa_mem n c hm; omega
theorem words_ok {l : List Int} (h : ∀ n ∈ l, I64 n) : (l.map Lib.itoa).all wOk = true ∧ (l.map Lib.itoa).map wV = l := by
  induction l with
  | nil => exact ⟨rfl, rfl⟩
  | cons n l ih =>
    obtain ⟨h1, h2⟩ := ih (fun x hx => h x (List.mem_cons_of_mem _ hx))
    have h3 := wV_itoa (h n (List.mem_cons_self ..))
    simp only [List.map_cons, List.all_cons, h3.2, h1, Bool.and_self, h3.1, h2, and_self]
theorem spl_words {w : List UInt8} (hw : (32 : UInt8) ∉ w) (l : List Int) : spl 32 (w ++ wordsL l) = w :: l.map Lib.itoa := by
  rw [join_words]
  exact join_spl hw (fun x hx => by
    obtain ⟨n, _, rfl⟩ := List.mem_map.1 hx
    exact itoa_no n 32 (by decide))
def ruleN (h : List UInt8) (l : List Int) : Option Rl :=
  if h = wBounded ∧ l.length = 1 then some (0, l.getD 0 0, 0, 0, 0)
  else if h = wMarked ∧ l.length = 1 then some (1, 0, 0, 0, l.getD 0 0)
  else if h = wPercent ∧ l.length = 2 then some (2, 0, l.getD 0 0, l.getD 1 0, 0)
  else none
/-- the rule of a line -/
def ruleP (l : List UInt8) : Option Rl :=
  match spl 32 l with
  | [] => none
  | h :: t => if t.all wOk = true then ruleN h (t.map wV) else none
theorem len1 {α : Type} {l : List α} (h : l.length = 1) : ∃ a, l = [a] := by
  match l, h with
  | [a], _ => exact ⟨a, rfl⟩
theorem len2 {α : Type} {l : List α} (h : l.length = 2) : ∃ a b, l = [a, b] := by
  match l, h with
  | [a, b], _ => exact ⟨a, b, rfl⟩
def rlL (r : Rl) : List UInt8 := ruleL r.1 r.2.1 r.2.2.1 r.2.2.2.1 r.2.2.2.2
def rlO (r : Rl) : Bool := onlyB r.1 r.2.1 r.2.2.1 r.2.2.2.1 r.2.2.2.2
theorem I64_0 : I64 0 := by unfold I64; decide
theorem ruleN_some {h : List UInt8} {l : List Int} {r : Rl} (hI : ∀ n ∈ l, I64 n) (e : ruleN h l = some r) : rlL r = lnL h l ∧ rlO r = true ∧ rlI r := by
  unfold ruleN at e
  split at e
  · rename_i hh
    obtain ⟨a, rfl⟩ := len1 hh.2
    simp only [Option.some.injEq] at e
    subst e
    refine ⟨?_, rfl, ⟨by show I64 _; simp only; unfold I64; decide, hI a (by simp), I64_0, I64_0, I64_0⟩⟩
    rw [hh.1]; rfl
  · split at e
    · rename_i hh
      obtain ⟨a, rfl⟩ := len1 hh.2
      simp only [Option.some.injEq] at e
      subst e
      refine ⟨?_, rfl, ⟨by show I64 _; simp only; unfold I64; decide, I64_0, I64_0, I64_0, hI a (by simp)⟩⟩
      rw [hh.1]; rfl
    · split at e
      · rename_i hh
        obtain ⟨a, b, rfl⟩ := len2 hh.2
        simp only [Option.some.injEq] at e
        subst e
        refine ⟨?_, rfl, ⟨by show I64 _; simp only; unfold I64; decide, I64_0, hI a (by simp), hI b (by simp), I64_0⟩⟩
        rw [hh.1]; rfl
      · cases e
theorem ruleP_some {l : List UInt8} {r : Rl} (e : ruleP l = some r) : rlL r = l ++ [10] ∧ rlO r = true ∧ rlI r := by
  unfold ruleP at e
  split at e
  · cases e
  · rename_i h t hs
    split at e
    · rename_i hok
      have hI : ∀ n ∈ t.map wV, I64 n := by
        intro n hn
        obtain ⟨x, hx, rfl⟩ := List.mem_map.1 hn
        exact (wOk_num (List.all_eq_true.1 hok x hx)).2
      obtain ⟨h1, h2, h3⟩ := ruleN_some hI e
      refine ⟨?_, h2, h3⟩
      rw [h1, spl_join hs, words_join hok]
      rfl
    · cases e
theorem ruleP_words {w : List UInt8} (hw : (32 : UInt8) ∉ w) {l : List Int} (hI : ∀ n ∈ l, I64 n) : ruleP (w ++ wordsL l) = ruleN w l := by
  unfold ruleP
  rw [spl_words hw]
  simp only
  rw [if_pos (words_ok hI).1, (words_ok hI).2]
theorem words_no10 {w : List UInt8} (hw : (10 : UInt8) ∉ w) (l : List Int) : (10 : UInt8) ∉ w ++ wordsL l := by
  intro h
  rcases List.mem_append.1 h with h | h
  · exact hw h
  · unfold wordsL at h
    obtain ⟨n, _, hn⟩ := List.mem_flatMap.1 h
    rcases List.mem_cons.1 hn with h | h
    · exact absurd h (by decide)
    · exact itoa_no n 10 (by decide) h
/-- a rule that can be told is read again -/
theorem ruleP_back {r : Rl} (h : rlI r) (ho : rlO r = true) : ∃ l, rlL r = l ++ [10] ∧ (10 : UInt8) ∉ l ∧ ruleP l = some r := by
  obtain ⟨k, b, p, n, s⟩ := r
  unfold rlO at ho
  unfold onlyB at ho
  simp only at ho
  obtain ⟨hk, hb, hp, hn, hs⟩ := h
  simp only at hk hb hp hn hs
  unfold rlL ruleL
  simp only
  split at ho
  · rename_i k0
    simp only [Bool.and_eq_true, beq_iff_eq] at ho
    obtain ⟨⟨h1, h2⟩, h3⟩ := ho
    refine ⟨wBounded ++ wordsL [b], by rw [if_pos k0]; rfl, words_no10 (by decide) _, ?_⟩
    rw [ruleP_words (by decide) (by intro x hx; rw [List.mem_singleton] at hx; subst hx; exact hb), k0, h1, h2, h3]
    rfl
  · rename_i k0
    split at ho
    · rename_i k1
      simp only [Bool.and_eq_true, beq_iff_eq] at ho
      obtain ⟨⟨h1, h2⟩, h3⟩ := ho
      refine ⟨wMarked ++ wordsL [s], by rw [if_neg k0, if_pos k1]; rfl, words_no10 (by decide) _, ?_⟩
      rw [ruleP_words (by decide) (by intro x hx; rw [List.mem_singleton] at hx; subst hx; exact hs), k1, h1, h2, h3]
      rfl
    · rename_i k1
      split at ho
      · rename_i k2
        simp only [Bool.and_eq_true, beq_iff_eq] at ho
        obtain ⟨h1, h2⟩ := ho
        refine ⟨wPercent ++ wordsL [p, n], by rw [if_neg k0, if_neg k1, if_pos k2]; rfl, words_no10 (by decide) _, ?_⟩
        rw [ruleP_words (by decide) (by intro x hx; simp at hx; rcases hx with rfl | rfl; exact hp; exact hn), k2, h1, h2]
        rfl
      · cases ho
/-- the first line -/
def headP (l : List UInt8) : Option (Int × Int) :=
  match spl 32 l with
  | [] => none
  | h :: t => if t.all wOk = true then (if h = wSource ∧ t.length = 2 then some ((t.map wV).getD 0 0, (t.map wV).getD 1 0) else none) else none
theorem headP_some {l : List UInt8} {a b : Int} (e : headP l = some (a, b)) : lnL wSource [a, b] = l ++ [10] ∧ I64 a ∧ I64 b := by
  unfold headP at e
  split at e
  · cases e
  · rename_i h t hs
    split at e
    · rename_i hok
      split at e
      · rename_i hh
        obtain ⟨x, y, rfl⟩ := len2 hh.2
        simp only [Option.some.injEq, Prod.mk.injEq] at e
        obtain ⟨e1, e2⟩ := e
        have hx := List.all_eq_true.1 hok x (by simp)
        have hy := List.all_eq_true.1 hok y (by simp)
        have e1' : wV x = a := e1
        have e2' : wV y = b := e2
        refine ⟨?_, by rw [← e1']; exact (wOk_num hx).2, by rw [← e2']; exact (wOk_num hy).2⟩
        rw [spl_join hs, words_join hok, hh.1]
        show lnL wSource [a, b] = wSource ++ wordsL [wV x, wV y] ++ [10]
        rw [e1', e2']; rfl
      · cases e
    · cases e
theorem headP_back {a b : Int} (ha : I64 a) (hb : I64 b) : headP (wSource ++ wordsL [a, b]) = some (a, b) := by
  unfold headP
  rw [spl_words (by decide)]
  simp only
  have hI : ∀ n ∈ [a, b], I64 n := by intro x hx; simp at hx; rcases hx with rfl | rfl; exact ha; exact hb
  rw [if_pos (words_ok hI).1, (words_ok hI).2, if_pos (by simp)]
  rfl
end Go.Proofs.YtioaijjmialdoaaGreatDoor
