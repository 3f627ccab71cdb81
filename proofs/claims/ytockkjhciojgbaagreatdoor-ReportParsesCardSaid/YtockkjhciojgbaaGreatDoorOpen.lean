
/- How arguments that can be read as data are opened: from their reading to cells. No condition. -/
import Derived.Test.YtockkjhciojgbaaGreatDoorPackA
import Derived.ProofKit
import Derived.OpenShut
import Derived.ShutString
import Derived.ChangeOld
import Derived.ChangeArms
import Derived.SizedLaws
namespace Go.Proofs.YtockkjhciojgbaaGreatDoor
set_option maxRecDepth 100000
set_option linter.unusedSimpArgs false
open Go.RowKit Go.ChangeShapes Go.WideShapes Go.ChangeAt
set_option linter.unusedVariables false

def RInt (k : IntKind) (_ : World) (cs : List Value) (x : Int) : Prop := cs = [.int k x] ∧ (Lit.int k x).wf = true
def RBool (_ : World) (cs : List Value) (x : Bool) : Prop := cs = [.bool x]
def RStr (_ : World) (cs : List Value) (x : ByteArray) : Prop := cs = [.string x] ∧ x.size ≤ maxLen
def RSl {α : Type} (sz : Nat) (R : World → List Value → α → Prop) (w : World) (cs : List Value) (xs : List α) : Prop :=
  ∃ A c, cs = [.slice A xs.length c] ∧ xs.length ≤ c ∧ c ≤ maxLen ∧ ∀ j x, xs[j]? = some x → ∃ ad row, A = some ad ∧ R w row x ∧ row.length = sz ∧ ∀ i u, row[i]? = some u → w.cell? ((ad.add (j * sz)).add i) = some u
def RArr (k : IntKind) (n : Nat) (_ : World) (cs : List Value) (xs : List Int) : Prop := xs.length = n ∧ cs = xs.map (.int k) ∧ ∀ x ∈ xs, (Lit.int k x).wf = true

def Opens {H α : Type} (enc : TypeId × Value → H) (P : Program) (w : World) (t : TypeId) (R : World → List Value → α → Prop) : Prop :=
  ∀ fuel cs y, DataW.trod enc P w 0 (fun _ => true) true fuel t cs = some y → ∃ x, R w cs x

theorem exists_list {α : Type} {p : Nat → α → Prop} : ∀ (n : Nat), (∀ i, i < n → ∃ x, p i x) → ∃ xs : List α, xs.length = n ∧ ∀ i x, xs[i]? = some x → p i x
  | 0, _ => ⟨[], rfl, fun i x h => by simp at h⟩
  | n + 1, h => by
    obtain ⟨xs, hl, hx⟩ := exists_list n (fun i hi => h i (by omega))
    obtain ⟨x, hp⟩ := h n (by omega)
    refine ⟨xs ++ [x], by simp [hl], fun i y hy => ?_⟩
    by_cases hi : i < xs.length
    · rw [List.getElem?_append_left hi] at hy; exact hx i y hy
    · have : i = n := by have := (List.getElem?_eq_some_iff.1 hy).1; simp at this; omega
      subst this
      rw [List.getElem?_append_right (by omega), hl, Nat.sub_self] at hy
      simp at hy; subst hy; exact hp

section
variable {H α : Type} {enc : TypeId × Value → H} {P : Program} {w : World} {t e : TypeId}

theorem opens_int {k : IntKind} (ht : P.underlying t = some (.int k)) : Opens enc P w t (RInt k) := by
  intro fuel cs y h
  cases fuel with
  | zero => simp [DataW.trod] at h
  | succ n =>
    unfold DataW.trod at h
    rw [ht] at h
    split at h <;> simp_all
    obtain ⟨⟨rfl, hw⟩, _⟩ := h
    rename_i he
    subst he
    exact ⟨_, rfl, hw⟩
theorem opens_bool (ht : P.underlying t = some .bool) : Opens enc P w t RBool := by
  intro fuel cs y h
  cases fuel with
  | zero => simp [DataW.trod] at h
  | succ n =>
    unfold DataW.trod at h
    rw [ht] at h
    split at h <;> simp_all
    rename_i b; cases b <;> simp [RBool]
theorem opens_string (ht : P.underlying t = some .string) : Opens enc P w t RStr := by
  intro fuel cs y h
  cases fuel with
  | zero => simp [DataW.trod] at h
  | succ n =>
    unfold DataW.trod at h
    rw [ht] at h
    split at h <;> simp_all
    exact ⟨_, rfl, h.1⟩
theorem cells_get {a : Addr} {n : Nat} {row : List Value} (h : w.cells? 0 a n = some row) : row.length = n ∧ ∀ i u, row[i]? = some u → w.cell? (a.add i) = some u := by
  unfold World.cells? at h
  rw [if_pos (Nat.zero_le _)] at h
  have hl : row.length = n := (mapM_some_length h).trans List.length_range
  refine ⟨hl, fun i u hi => ?_⟩
  have hlt : i < row.length := (List.getElem?_eq_some_iff.1 hi).1
  have := mapM_some_get h i i (by rw [List.getElem?_range (by omega)])
  rw [← this] at hi
  exact hi
theorem opens_slice {R : World → List Value → α → Prop} {sz : Nat} (ht : P.underlying t = some (.slice e)) (hc : P.cellsOf e = sz) (hE : Opens enc P w e R) : Opens enc P w t (RSl sz R) := by
  intro fuel cs y h
  rcases DataW.trod_slice ht h with ⟨rfl, _⟩ | ⟨a, len, cap, elems, rest, n, _, rfl, _, _, hl, hm, hlen, hel, _, _⟩
  · exact ⟨[], none, 0, rfl, Nat.le_refl _, by unfold maxLen; omega, fun j x hj => by simp at hj⟩
  obtain ⟨xs, hxl, hxs⟩ := exists_list (p := fun i x => ∃ row, R w row x ∧ row.length = sz ∧ ∀ j u, row[j]? = some u → w.cell? ((a.add (i * sz)).add j) = some u) len (by
    intro i hi
    have h1 := hel i hi
    rw [hc, List.getElem?_eq_getElem (by omega)] at h1
    obtain ⟨row, hr, hx⟩ := Option.bind_eq_some_iff.1 h1
    obtain ⟨x, hx⟩ := hE _ _ _ hx
    obtain ⟨h2, h3⟩ := cells_get hr
    exact ⟨x, row, hx, h2, h3⟩)
  refine ⟨xs, some a, cap, by rw [hxl], by omega, hm, fun j x hj => ?_⟩
  obtain ⟨row, h1, h2, h3⟩ := hxs j x hj
  exact ⟨a, row, rfl, h1, h2, h3⟩
theorem opens_array {k : IntKind} {n : Nat} (ht : P.underlying t = some (.array n e)) (he : P.underlying e = some (.int k)) (hc : P.cellsOf e = 1) (hn : P.cellsOf t = n) : Opens enc P w t (RArr k n) := by
  intro fuel cs y h
  obtain ⟨xs, m, _, _, hl, hxl, hel⟩ := DataW.trod_array ht h
  obtain ⟨zs, hzl, hzs⟩ := exists_list (p := fun i (z : Int) => cs[i]? = some (.int k z) ∧ (Lit.int k z).wf = true) n (by
    intro i hi
    have h1 := hel i hi
    rw [hc, List.getElem?_eq_getElem (by omega), Nat.mul_one] at h1
    obtain ⟨z, hz, hw⟩ := opens_int (enc := enc) (w := w) he _ _ _ h1
    refine ⟨z, ?_, hw⟩
    have : ((cs.drop i).take 1)[0]? = some (.int k z) := by rw [hz]; rfl
    simpa using this)
  refine ⟨zs, hzl, ?_, fun x hx => ?_⟩
  · apply List.ext_getElem?
    intro i
    by_cases hi : i < n
    · rw [List.getElem?_map, List.getElem?_eq_getElem (l := zs) (by omega), Option.map_some]
      exact (hzs i _ (List.getElem?_eq_getElem (by omega))).1
    · rw [List.getElem?_eq_none (by omega), List.getElem?_eq_none (by simp; omega)]
  · obtain ⟨i, hi, rfl⟩ := List.mem_iff_getElem.1 hx
    exact (hzs i _ (List.getElem?_eq_getElem hi)).2
/-- A row of whole numbers, as the walks want it. -/
theorem RSl.ints {k : IntKind} {v : Value} {xs : List Int} (h : RSl 1 (RInt k) w [v] xs) : ∃ A c, v = .slice A xs.length c ∧ xs.length ≤ c ∧ c ≤ maxLen ∧ Rd w A (xs.map (.int k)) ∧ ∀ x ∈ xs, (Lit.int k x).wf = true := by
  obtain ⟨A, c, hv, h1, h2, h3⟩ := h
  injection hv with hv _
  refine ⟨A, c, hv, h1, h2, ?_, ?_⟩
  · intro j u hj
    rw [List.getElem?_map, Option.map_eq_some_iff] at hj
    obtain ⟨x, hx, rfl⟩ := hj
    obtain ⟨ad, row, e, ⟨rfl, _⟩, _, hc⟩ := h3 j x hx
    refine ⟨ad, e, ?_⟩
    have := hc 0 _ rfl
    rwa [Nat.mul_one, show (ad.add j).add 0 = ad.add j by simp [Addr.add]] at this
  · intro x hx
    obtain ⟨i, hi, rfl⟩ := List.mem_iff_getElem.1 hx
    obtain ⟨ad, row, e, ⟨_, hw⟩, _⟩ := h3 i _ (List.getElem?_eq_getElem hi)
    exact hw
theorem RSl.strs {v : Value} {xs : List ByteArray} (h : RSl 1 RStr w [v] xs) : ∃ A c, v = .slice A xs.length c ∧ xs.length ≤ c ∧ c ≤ maxLen ∧ Rd w A (xs.map .string) ∧ ∀ x ∈ xs, x.size ≤ maxLen := by
  obtain ⟨A, c, hv, h1, h2, h3⟩ := h
  injection hv with hv _
  refine ⟨A, c, hv, h1, h2, ?_, ?_⟩
  · intro j u hj
    rw [List.getElem?_map, Option.map_eq_some_iff] at hj
    obtain ⟨x, hx, rfl⟩ := hj
    obtain ⟨ad, row, e, ⟨rfl, _⟩, _, hc⟩ := h3 j x hx
    refine ⟨ad, e, ?_⟩
    have := hc 0 _ rfl
    rwa [Nat.mul_one, show (ad.add j).add 0 = ad.add j by simp [Addr.add]] at this
  · intro x hx
    obtain ⟨i, hi, rfl⟩ := List.mem_iff_getElem.1 hx
    obtain ⟨ad, row, e, ⟨_, hw⟩, _⟩ := h3 i _ (List.getElem?_eq_getElem hi)
    exact hw
end
end Go.Proofs.YtockkjhciojgbaaGreatDoor
