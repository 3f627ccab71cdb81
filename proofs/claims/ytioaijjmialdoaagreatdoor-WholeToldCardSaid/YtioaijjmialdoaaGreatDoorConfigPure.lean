
/- Configurations in words, and back: the plain law. No program. -/
import Derived.Test.YtioaijjmialdoaaGreatDoorChoicePure
import Derived.Test.YtioaijjmialdoaaGreatDoorConfigC
namespace Go.Proofs.YtioaijjmialdoaaGreatDoor
set_option maxRecDepth 100000
set_option linter.unusedSimpArgs false
set_option linter.unusedVariables false
set_option linter.unusedSimpArgs false

/-- a text in parts, at each of these signs -/
def spl (c : UInt8) : List UInt8 → List (List UInt8)
  | [] => [[]]
  | x :: l => if x = c then [] :: spl c l else match spl c l with | [] => [[x]] | h :: t => (x :: h) :: t
theorem spl_ne (c : UInt8) : ∀ l, spl c l ≠ []
  | [] => by simp [spl]
  | x :: l => by
    unfold spl
    split
    · simp
    · split <;> simp
theorem spl_no {c : UInt8} : ∀ {l : List UInt8}, c ∉ l → spl c l = [l]
  | [], _ => rfl
  | x :: l, h => by
    have hx : ¬ x = c := fun e => h (e ▸ List.mem_cons_self ..)
    have hm : c ∉ l := fun e => h (List.mem_cons_of_mem _ e)
    unfold spl
    rw [if_neg hx, spl_no hm]
theorem spl_cut {c : UInt8} {a : List UInt8} (b : List UInt8) (h : c ∉ a) : spl c (a ++ c :: b) = a :: spl c b := by
  induction a with
  | nil => simp [spl]
  | cons x a ih =>
    have hx : ¬ x = c := fun e => h (e ▸ List.mem_cons_self ..)
    have hm : c ∉ a := fun e => h (List.mem_cons_of_mem _ e)
    rw [List.cons_append]
    conv => lhs; unfold spl
    rw [if_neg hx, ih hm]
def joinC (c : UInt8) (t : List (List UInt8)) : List UInt8 := t.flatMap fun x => c :: x
theorem spl_join {c : UInt8} : ∀ {l h : List UInt8} {t : List (List UInt8)}, spl c l = h :: t → l = h ++ joinC c t
  | [], h, t, e => by simp [spl] at e; obtain ⟨rfl, rfl⟩ := e; rfl
  | x :: l, h, t, e => by
    unfold spl at e
    split at e
    · rename_i hx
      simp only [List.cons.injEq] at e
      obtain ⟨rfl, rfl⟩ := e
      cases hs : spl c l with
      | nil => exact absurd hs (spl_ne c l)
      | cons h2 t2 =>
        have := spl_join hs
        unfold joinC at this ⊢
        rw [hx, List.flatMap_cons, List.nil_append, List.cons_append, ← this]
    · split at e
      · rename_i hs; exact absurd hs (spl_ne c l)
      · rename_i h2 t2 hs
        simp only [List.cons.injEq] at e
        obtain ⟨rfl, rfl⟩ := e
        rw [List.cons_append, ← spl_join hs]
theorem join_spl {c : UInt8} : ∀ {t : List (List UInt8)} {h : List UInt8}, c ∉ h → (∀ x ∈ t, c ∉ x) → spl c (h ++ joinC c t) = h :: t
  | [], h, hh, _ => by unfold joinC; simp; exact spl_no hh
  | x :: t, h, hh, ht => by
    unfold joinC
    rw [List.flatMap_cons, List.cons_append, spl_cut _ hh]
    congr 1
    exact join_spl (ht x (List.mem_cons_self ..)) (fun y hy => ht y (List.mem_cons_of_mem _ hy))
theorem splitK_spl (c : UInt8) : ∀ (n : Nat) (l : List UInt8), l.length ≤ n → Lib.splitK [c] 0 (l.count c) l = spl c l := by
  intro n
  induction n with
  | zero =>
    intro l hl
    obtain rfl : l = [] := List.eq_nil_of_length_eq_zero (by omega)
    rfl
  | succ n ih =>
    intro l hl
    by_cases hm : c ∈ l
    · obtain ⟨h1, h2⟩ := cutS_yes c l hm
      generalize hA : (cutS c l).1 = a at *
      generalize hB : (cutS c l).2.1 = b at *
      have hix : Lib.index l [c] = (a.length : Int) := by rw [index_S, if_pos hm, hA]
      have hcnt : l.count c = b.count c + 1 := by
        rw [h1, List.count_append, List.count_cons_self, List.count_eq_zero_of_not_mem h2]; omega
      have hbl : b.length ≤ n := by
        have := congrArg List.length h1
        rw [List.length_append, List.length_cons] at this
        omega
      rw [hcnt]
      unfold Lib.splitK
      rw [hix, if_neg (by rw [beq_iff_eq]; omega)]
      have e1 : l.take (((a.length : Int)).toNat + 0) = a := by rw [Int.toNat_natCast, Nat.add_zero, h1]; exact List.take_left
      have e2 : l.drop (((a.length : Int)).toNat + ([c] : List UInt8).length) = b := by
        rw [Int.toNat_natCast, h1, show a.length + ([c] : List UInt8).length = (a ++ [c]).length by simp, show a ++ c :: b = (a ++ [c]) ++ b by simp]
        exact List.drop_left
      rw [e1, e2, ih b hbl]
      rw [h1, spl_cut _ h2]
    · rw [List.count_eq_zero_of_not_mem hm, spl_no hm]; rfl
theorem splitB_spl (c : UInt8) (s : ByteArray) : (Lib.splitB ⟨#[c]⟩ 0 (Lib.countB s ⟨#[c]⟩) s).map bL = spl c (bL s) := by
  have h1 := Lib.splitB_data ⟨#[c]⟩ 0 (Lib.countB s ⟨#[c]⟩) s
  have h2 : Lib.countB s ⟨#[c]⟩ = (bL s).count c := Lib.count_one c (bL s)
  rw [h2] at h1 ⊢
  exact h1.trans (splitK_spl c _ (bL s) (Nat.le_refl _))
theorem spl_len (c : UInt8) : ∀ l : List UInt8, (spl c l).length ≤ l.length + 1
  | [] => by simp [spl]
  | x :: l => by
    have := spl_len c l
    unfold spl
    split
    · simp; omega
    · split
      · simp
      · rename_i hs; rw [hs] at this; simp at this ⊢; omega
theorem spl_mem_len {c : UInt8} : ∀ {l : List UInt8}, ∀ x ∈ spl c l, x.length ≤ l.length
  | [], x, h => by simp [spl] at h; subst h; simp
  | y :: l, x, h => by
    unfold spl at h
    split at h
    · rcases List.mem_cons.1 h with rfl | h
      · simp
      · have := spl_mem_len x h; simp; omega
    · split at h
      · simp at h; subst h; simp
      · rename_i h2 t2 hs
        rcases List.mem_cons.1 h with rfl | h
        · have := spl_mem_len (c := c) (l := l) h2 (by rw [hs]; exact List.mem_cons_self ..); simp; omega
        · have := spl_mem_len (c := c) (l := l) x (by rw [hs]; exact List.mem_cons_of_mem _ h); simp; omega
theorem spl_no_mem {c : UInt8} : ∀ {l : List UInt8}, ∀ x ∈ spl c l, c ∉ x
  | [], x, h => by simp [spl] at h; subst h; simp
  | y :: l, x, h => by
    unfold spl at h
    split at h
    · rcases List.mem_cons.1 h with rfl | h
      · simp
      · exact spl_no_mem x h
    · rename_i hy
      split at h
      · rename_i hs; exact absurd hs (spl_ne c l)
      · rename_i h2 t2 hs
        rcases List.mem_cons.1 h with rfl | h
        · have := spl_no_mem (c := c) (l := l) h2 (by rw [hs]; exact List.mem_cons_self ..)
          simp [this]; exact fun e => hy e.symm
        · exact spl_no_mem (c := c) (l := l) x (by rw [hs]; exact List.mem_cons_of_mem _ h)
end Go.Proofs.YtioaijjmialdoaaGreatDoor
