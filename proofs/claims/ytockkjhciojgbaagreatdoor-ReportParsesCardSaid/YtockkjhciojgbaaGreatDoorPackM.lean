/- Several texts as one. No condition beyond each one's own. -/
import Derived.Test.YtockkjhciojgbaaGreatDoorPackA
import Derived.Test.YtockkjhciojgbaaGreatDoorAlign
import Derived.IntWalk
import Derived.BigRegion
import Derived.Deep.RegionWith
/- TreePure -/
/- The least of many numbers by matches of two, as a plain law. No program. -/
namespace Go.Proofs.YtockkjhciojgbaaGreatDoor
set_option maxRecDepth 100000
set_option linter.unusedSimpArgs false
set_option linter.unusedVariables false

/-- Who wins of two places; -1: nobody. -/
def better (key : Int → Int) (a b : Int) : Int := if a = -1 then b else if b = -1 ∨ key a ≤ key b then a else b
theorem better_none (key : Int → Int) (a : Int) : better key a (-1) = a := by unfold better; split <;> simp_all
theorem none_better (key : Int → Int) (a : Int) : better key (-1) a = a := by unfold better; simp
theorem better_assoc (key : Int → Int) (a b c : Int) : better key (better key a b) c = better key a (better key b c) := by
  unfold better
  by_cases ha : a = -1
  · simp [ha]
  · by_cases hb : b = -1
    · simp [ha, hb]
    · by_cases hc : c = -1
      · simp [ha, hb, hc]; split <;> simp_all
      · simp only [ha, hb, hc, if_false, false_or]
        by_cases h1 : key a ≤ key b <;> by_cases h2 : key b ≤ key c <;> by_cases h3 : key a ≤ key c <;> simp [h1, h2, h3, ha, hb, hc] <;> omega

/-- The place of the least number of those from lo on, so many, that are in; -1: none is. -/
def best (key : Int → Int) (inn : Nat → Bool) (lo : Nat) : Nat → Int
  | 0 => -1
  | k + 1 => better key (best key inn lo k) (if inn (lo + k) then ((lo + k : Nat) : Int) else -1)
theorem best_add (key : Int → Int) (inn : Nat → Bool) (lo a : Nat) : ∀ b, best key inn lo (a + b) = better key (best key inn lo a) (best key inn (lo + a) b)
  | 0 => by simp [best, better_none]
  | b + 1 => by
    rw [← Nat.add_assoc, best, best_add key inn lo a b, best, better_assoc, Nat.add_assoc]
theorem best_congr {key key' : Int → Int} {inn inn' : Nat → Bool} {lo : Nat} : ∀ k, (∀ i, lo ≤ i → i < lo + k → inn i = inn' i ∧ (inn i = true → key i = key' i)) → best key inn lo k = best key' inn' lo k ∧ (best key inn lo k = -1 ∨ ∃ i : Nat, best key inn lo k = (i : Int) ∧ lo ≤ i ∧ i < lo + k ∧ inn i = true)
  | 0, _ => ⟨rfl, .inl rfl⟩
  | k + 1, h => by
    obtain ⟨h1, h2⟩ := best_congr (key := key) (key' := key') (inn := inn) (inn' := inn') (lo := lo) k (fun i hi hk => h i hi (by omega))
    obtain ⟨h3, h4⟩ := h (lo + k) (by omega) (by omega)
    have hstep : best key inn lo (k + 1) = best key' inn' lo (k + 1) := by
      simp only [best]
      rw [← h1, ← h3]
      by_cases hin : inn (lo + k) = true
      · rw [if_pos hin]
        rcases h2 with h2 | ⟨i, h2, hi, hik, hii⟩
        · rw [h2, none_better, none_better]
        · unfold better
          have e1 := (h i hi (by omega)).2 hii
          have e2 := h4 hin
          rw [h2, e1, e2]
      · rw [if_neg hin, better_none, better_none]
    refine ⟨hstep, ?_⟩
    simp only [best]
    by_cases hin : inn (lo + k) = true
    · rw [if_pos hin]
      unfold better
      split
      · exact .inr ⟨lo + k, rfl, by omega, by omega, hin⟩
      · split
        · rcases h2 with h2 | ⟨i, h2, hi, hik, hii⟩
          · rename_i hne _; exact absurd h2 hne
          · exact .inr ⟨i, h2, hi, by omega, hii⟩
        · exact .inr ⟨lo + k, rfl, by omega, by omega, hin⟩
    · rw [if_neg hin, better_none]
      rcases h2 with h2 | ⟨i, h2, hi, hik, hii⟩
      · exact .inl h2
      · exact .inr ⟨i, h2, hi, by omega, hii⟩
theorem best_in (key : Int → Int) (inn : Nat → Bool) (lo k : Nat) : best key inn lo k = -1 ∨ ∃ i : Nat, best key inn lo k = (i : Int) ∧ lo ≤ i ∧ i < lo + k ∧ inn i = true :=
  (best_congr (key := key) (key' := key) (inn := inn) (inn' := inn) k (fun _ _ _ => ⟨rfl, fun _ => rfl⟩)).2
theorem best_out (key : Int → Int) (inn : Nat → Bool) (lo : Nat) : ∀ k, (∀ i, lo ≤ i → i < lo + k → inn i = false) → best key inn lo k = -1
  | 0, _ => rfl
  | k + 1, h => by
    rw [best, best_out key inn lo k (fun i hi hk => h i hi (by omega)), h (lo + k) (by omega) (by omega), none_better]; rfl

/-! ### the matches: place 'at' of height h has the best of 2^h places -/
/-- 'at' is a match of height h. -/
def Node (size h a : Nat) : Prop := size ≤ a * 2 ^ h ∧ (a + 1) * 2 ^ h ≤ 2 * size
def Right (key : Int → Int) (inn : Nat → Bool) (size h a : Nat) (v : Int) : Prop := v = best key inn (a * 2 ^ h - size) (2 ^ h)

/-- All matches are right. -/
def Inv (key : Int → Int) (inn : Nat → Bool) (size : Nat) (won : Nat → Int) : Prop := ∀ h a, Node size h a → Right key inn size h a (won a)
/-- All matches are right, but for those above height h that place i takes part in. -/
def InvUp (key : Int → Int) (inn : Nat → Bool) (size i h : Nat) (won : Nat → Int) : Prop :=
  ∀ k a, Node size k a → (k ≤ h ∨ ¬ (a * 2 ^ k ≤ size + i ∧ size + i < (a + 1) * 2 ^ k)) → Right key inn size k a (won a)

/-- A place's number, or whether it is in, has changed: the matches in which it doesn't take part stay right. -/
theorem Inv.change {key key' : Int → Int} {inn inn' : Nat → Bool} {size i : Nat} {won : Nat → Int} (h : Inv key inn size won) (hi : ∀ j : Nat, j ≠ i → inn j = inn' j ∧ key j = key' j) :
    ∀ k a, Node size k a → ¬ (a * 2 ^ k ≤ size + i ∧ size + i < (a + 1) * 2 ^ k) → Right key' inn' size k a (won a) := by
  intro k a hn hout
  have := h k a hn
  unfold Right at *
  rw [this]
  refine (best_congr _ (fun j hj1 hj2 => ?_)).1
  have hne : j ≠ i := by
    rintro rfl
    apply hout
    have := hn.1
    rw [Nat.add_mul, Nat.one_mul]
    omega
  exact ⟨(hi j hne).1, fun _ => (hi j hne).2⟩
theorem node_zero {size a : Nat} : Node size 0 a ↔ size ≤ a ∧ a < 2 * size := by unfold Node; simp; omega

/-- The leaf of a place is told. -/
theorem InvUp.leaf {key : Int → Int} {inn : Nat → Bool} {size i : Nat} {won : Nat → Int} (h : ∀ k a, Node size k a → ¬ (a * 2 ^ k ≤ size + i ∧ size + i < (a + 1) * 2 ^ k) → Right key inn size k a (won a))
    (v : Int) (hv : v = if inn i then (i : Int) else -1) : InvUp key inn size i 0 (fun a => if a = size + i then v else won a) := by
  intro k a hn hor
  by_cases ha : a = size + i
  · subst ha
    have hk : k = 0 := by
      rcases hor with h0 | h0
      · omega
      · have h1 : 1 ≤ 2 ^ k := Nat.one_le_two_pow
        have h2 := hn.2
        by_cases hk : k = 0
        · exact hk
        · exfalso
          have h3 : 2 ≤ 2 ^ k := by
            calc 2 = 2 ^ 1 := rfl
              _ ≤ 2 ^ k := Nat.pow_le_pow_right (by omega) (by omega)
          have h4 : (size + i + 1) * 2 ≤ (size + i + 1) * 2 ^ k := Nat.mul_le_mul_left _ h3
          omega
    subst hk
    unfold Right
    simp only [if_true, Nat.pow_zero, Nat.mul_one, best, none_better]
    rw [hv, show size + i - size + 0 = i by omega]
  · show Right key inn size k a (if a = size + i then v else won a)
    rw [if_neg ha]
    refine h k a hn ?_
    rcases hor with h0 | h0
    · have : k = 0 := by omega
      subst this
      simp
      omega
    · exact h0

/-- One match more, of which the two below are right. -/
theorem InvUp.up {key : Int → Int} {inn : Nat → Bool} {size i h a : Nat} {won : Nat → Int} (hv : InvUp key inn size i h won) (ha : a * 2 ^ (h + 1) ≤ size + i ∧ size + i < (a + 1) * 2 ^ (h + 1)) (hn : Node size (h + 1) a) (ha0 : 0 < a) :
    InvUp key inn size i (h + 1) (fun b => if b = a then better key (won (2 * a)) (won (2 * a + 1)) else won b) := by
  have e1 : 2 * a * 2 ^ h = a * 2 ^ (h + 1) := by rw [Nat.pow_succ, Nat.mul_comm 2 a, Nat.mul_assoc, Nat.mul_comm 2 (2 ^ h)]
  have e2 : (2 * a + 1) * 2 ^ h = a * 2 ^ (h + 1) + 2 ^ h := by rw [Nat.add_mul, e1, Nat.one_mul]
  have e3 : (2 * a + 1 + 1) * 2 ^ h = (a + 1) * 2 ^ (h + 1) := by rw [Nat.add_mul, e2, Nat.one_mul, Nat.add_mul, Nat.one_mul, Nat.pow_succ]; omega
  have hp : 0 < 2 ^ h := Nat.two_pow_pos h
  have n1 : Node size h (2 * a) := by refine ⟨by rw [e1]; exact hn.1, ?_⟩; rw [e2]; have := hn.2; rw [Nat.add_mul, Nat.one_mul, Nat.pow_succ] at this; rw [Nat.pow_succ] at *; omega
  have n2 : Node size h (2 * a + 1) := by refine ⟨by rw [e2]; have := hn.1; omega, ?_⟩; rw [e3]; exact hn.2
  have r1 := hv h (2 * a) n1 (.inl (Nat.le_refl _))
  have r2 := hv h (2 * a + 1) n2 (.inl (Nat.le_refl _))
  intro k b hb hor
  by_cases hba : b = a
  · subst hba
    have hk : k = h + 1 := by
      have h1 := hb.1
      have h2 := hb.2
      have h3 := hn.1
      have h4 := hn.2
      rcases Nat.lt_trichotomy k (h + 1) with hlt | heq | hgt
      · exfalso
        have : b * 2 ^ k * 2 ≤ b * 2 ^ (h + 1) := by
          rw [Nat.mul_assoc, ← Nat.pow_succ]
          exact Nat.mul_le_mul_left _ (Nat.pow_le_pow_right (by omega) (by omega))
        rw [Nat.add_mul] at h4
        have : 0 < 1 * 2 ^ (h + 1) := by simp; exact Nat.two_pow_pos _
        omega
      · exact heq
      · exfalso
        have : b * 2 ^ (h + 1) * 2 ≤ b * 2 ^ k := by
          rw [Nat.mul_assoc, ← Nat.pow_succ]
          exact Nat.mul_le_mul_left _ (Nat.pow_le_pow_right (by omega) (by omega))
        rw [Nat.add_mul] at h2
        have : 0 < 1 * 2 ^ k := by simp; exact Nat.two_pow_pos _
        omega
    subst hk
    unfold Right at *
    simp only [if_true]
    rw [r1, r2, e1, e2, show 2 ^ (h + 1) = 2 ^ h + 2 ^ h by rw [Nat.pow_succ]; omega, best_add]
    congr 2
    have := hn.1
    rw [show 2 ^ h + 2 ^ h = 2 ^ (h + 1) by rw [Nat.pow_succ]; omega]
    omega
  · show Right key inn size k b (if b = a then _ else won b)
    rw [if_neg hba]
    refine hv k b hb ?_
    rcases hor with h0 | h0
    · by_cases hk : k ≤ h
      · exact .inl hk
      · have hk : k = h + 1 := by omega
        subst hk
        refine .inr (fun hc => hba ?_)
        have l1 : b < a + 1 := Nat.lt_of_mul_lt_mul_right (a := 2 ^ (h + 1)) (by omega)
        have l2 : a < b + 1 := Nat.lt_of_mul_lt_mul_right (a := 2 ^ (h + 1)) (by omega)
        omega
    · exact .inr h0
/-- At the top all matches are right. -/
theorem InvUp.top {key : Int → Int} {inn : Nat → Bool} {size i h : Nat} {won : Nat → Int} (hv : InvUp key inn size i h won) (hs : size = 2 ^ h) : Inv key inn size won := by
  intro k a hn
  refine hv k a hn ?_
  by_cases hk : k ≤ h
  · exact .inl hk
  · refine .inr (fun hc => ?_)
    have h1 := hn.1
    have h2 := hn.2
    have h3 : 2 ^ h * 2 ≤ 2 ^ k := by rw [← Nat.pow_succ]; exact Nat.pow_le_pow_right (by omega) (by omega)
    have ha : 0 < a := by
      rcases Nat.eq_zero_or_pos a with h0 | h0
      · subst h0
        have : 0 < 2 ^ h := Nat.two_pow_pos h
        omega
      · exact h0
    have h4 : 1 * 2 ^ k ≤ a * 2 ^ k := Nat.mul_le_mul_right _ ha
    rw [Nat.add_mul] at h2
    have : 0 < 2 ^ h := Nat.two_pow_pos h
    omega
/-- The last match has the best of all. -/
theorem Inv.first {key : Int → Int} {inn : Nat → Bool} {size h : Nat} {won : Nat → Int} (hv : Inv key inn size won) (hs : size = 2 ^ h) : won 1 = best key inn 0 size := by
  have hn : Node size h 1 := by unfold Node; omega
  have := hv h 1 hn
  unfold Right at this
  rw [this, hs]; congr 1; omega
end Go.Proofs.YtockkjhciojgbaaGreatDoor
/- Tree -/
/- What the functions of tree do to their blocks. No condition. -/
namespace Go.Proofs.YtockkjhciojgbaaGreatDoor
set_option maxRecDepth 100000
set_option linter.unusedSimpArgs false
open Go.RowKit
set_option linter.unusedVariables false

def keyOf (keys : List Int) (i : Int) : Int := keys.getD i.toNat 0
def innOf (outs : List Bool) (i : Nat) : Bool := !(outs.getD i true)
def wonF (won : List Int) (a : Nat) : Int := won.getD a (-1)
theorem wonF_set {won : List Int} {k : Nat} (hk : k < won.length) (v : Int) : wonF (won.set k v) = fun a => if a = k then v else wonF won a := by
  funext a
  unfold wonF
  rw [List.getD_eq_getElem?_getD, List.getD_eq_getElem?_getD, List.getElem?_set]
  by_cases h : k = a
  · subst h; simp [hk]
  · rw [if_neg h, if_neg (fun e => h e.symm)]
theorem wonF_at {won : List Int} {a : Nat} (h : a < won.length) : won[a]? = some (wonF won a) := by
  unfold wonF; rw [List.getD_eq_getElem?_getD, List.getElem?_eq_getElem h]; rfl
theorem keyOf_at {keys : List Int} {p : Nat} (h : p < keys.length) : keys[p]? = some (keyOf keys (p : Int)) := by
  unfold keyOf; rw [Int.toNat_natCast, List.getD_eq_getElem?_getD, List.getElem?_eq_getElem h]; rfl
theorem innOf_at {outs : List Bool} {p : Nat} (h : p < outs.length) : outs[p]? = some (!innOf outs p) := by
  unfold innOf; rw [List.getD_eq_getElem?_getD, List.getElem?_eq_getElem h, Bool.not_not]; rfl
theorem innOf_lt {outs : List Bool} {p : Nat} (h : innOf outs p = true) : p < outs.length := by
  rcases Nat.lt_or_ge p outs.length with hl | hl
  · exact hl
  · unfold innOf at h; rw [List.getD_eq_getElem?_getD, List.getElem?_eq_none hl] at h; cases h

def TreeB (w : World) (g bk bo bw : Nat) (keys : List Int) (outs : List Bool) (won : List Int) (size : Nat) : Prop :=
  Blk w g 185 #[.slice (some ⟨bk, 0, none⟩) keys.length keys.length, .slice (some ⟨bo, 0, none⟩) keys.length keys.length, .slice (some ⟨bw, 0, none⟩) (2 * size) (2 * size), .int .i64 size] ∧
  BlkL (Value.int .i64) w bk 3 keys ∧ BlkL Value.bool w bo 4 outs ∧ BlkL (Value.int .i64) w bw 3 won ∧ bk ≠ bw ∧ outs.length = keys.length ∧ won.length = 2 * size ∧ size ≤ 4096 ∧ keys.length ≤ size
section
variable {w w' : World} {g bk bo bw : Nat} {keys : List Int} {outs : List Bool} {won : List Int} {size : Nat}
theorem TreeB.c0 (h : TreeB w g bk bo bw keys outs won size) : w.cell? ⟨g, 0, none⟩ = some (.slice (some ⟨bk, 0, none⟩) keys.length keys.length) := by simpa using h.1.cell 0
theorem TreeB.c1 (h : TreeB w g bk bo bw keys outs won size) : w.cell? ⟨g, 1, none⟩ = some (.slice (some ⟨bo, 0, none⟩) keys.length keys.length) := by simpa using h.1.cell 1
theorem TreeB.c2 (h : TreeB w g bk bo bw keys outs won size) : w.cell? ⟨g, 2, none⟩ = some (.slice (some ⟨bw, 0, none⟩) (2 * size) (2 * size)) := by simpa using h.1.cell 2
theorem TreeB.c3 (h : TreeB w g bk bo bw keys outs won size) : w.cell? ⟨g, 3, none⟩ = some (.int .i64 size) := by simpa using h.1.cell 3
theorem TreeB.gk (h : TreeB w g bk bo bw keys outs won size) : g ≠ bk := Blk.ne h.1 h.2.1 (by decide)
theorem TreeB.go_ (h : TreeB w g bk bo bw keys outs won size) : g ≠ bo := Blk.ne h.1 h.2.2.1 (by decide)
theorem TreeB.gw (h : TreeB w g bk bo bw keys outs won size) : g ≠ bw := Blk.ne h.1 h.2.2.2.1 (by decide)
theorem TreeB.ko (h : TreeB w g bk bo bw keys outs won size) : bk ≠ bo := Blk.ne h.2.1 h.2.2.1 (by decide)
theorem TreeB.ow (h : TreeB w g bk bo bw keys outs won size) : bo ≠ bw := Blk.ne h.2.2.1 h.2.2.2.1 (by decide)
theorem TreeB.mod {S : Nat → Prop} (h : TreeB w g bk bo bw keys outs won size) (m : Mod S w w') (h1 : ¬ S g) (h2 : ¬ S bk) (h3 : ¬ S bo) (h4 : ¬ S bw) : TreeB w' g bk bo bw keys outs won size :=
  ⟨h.1.mod m h1, h.2.1.mod m h2, h.2.2.1.mod m h3, h.2.2.2.1.mod m h4, h.2.2.2.2⟩
theorem TreeB.dr (h : TreeB w g bk bo bw keys outs won size) (m : Dr w w') : TreeB w' g bk bo bw keys outs won size := by obtain ⟨n, rfl⟩ := m; exact h
theorem TreeB.setW (h : TreeB w g bk bo bw keys outs won size) (k : Nat) (v : Int) : TreeB (w.setCell ⟨bw, k, none⟩ (.int .i64 v)) g bk bo bw keys outs (won.set k v) size :=
  ⟨h.1.far (p := ⟨bw, k, none⟩) h.gw _, h.2.1.far (p := ⟨bw, k, none⟩) h.2.2.2.2.1 _, h.2.2.1.far (p := ⟨bw, k, none⟩) h.ow _, h.2.2.2.1.set k v, h.2.2.2.2.1, h.2.2.2.2.2.1, by rw [List.length_set]; exact h.2.2.2.2.2.2.1, h.2.2.2.2.2.2.2⟩
theorem TreeB.setK (h : TreeB w g bk bo bw keys outs won size) (k : Nat) (v : Int) : TreeB (w.setCell ⟨bk, k, none⟩ (.int .i64 v)) g bk bo bw (keys.set k v) outs won size := by
  refine ⟨?_, h.2.1.set k v, h.2.2.1.far (p := ⟨bk, k, none⟩) h.ko.symm _, h.2.2.2.1.far (p := ⟨bk, k, none⟩) h.2.2.2.2.1.symm _, h.2.2.2.2.1, ?_, h.2.2.2.2.2.2.1, h.2.2.2.2.2.2.2.1, ?_⟩
  · rw [List.length_set]; exact h.1.far (p := ⟨bk, k, none⟩) h.gk _
  · rw [List.length_set]; exact h.2.2.2.2.2.1
  · rw [List.length_set]; exact h.2.2.2.2.2.2.2.2
theorem TreeB.setO (h : TreeB w g bk bo bw keys outs won size) (k : Nat) (v : Bool) : TreeB (w.setCell ⟨bo, k, none⟩ (.bool v)) g bk bo bw keys (outs.set k v) won size :=
  ⟨h.1.far (p := ⟨bo, k, none⟩) h.go_ _, h.2.1.far (p := ⟨bo, k, none⟩) h.ko _, h.2.2.1.set k v, h.2.2.2.1.far (p := ⟨bo, k, none⟩) h.ow.symm _, h.2.2.2.2.1, by rw [List.length_set]; exact h.2.2.2.2.2.1, h.2.2.2.2.2.2⟩
end

/-- A place, or nobody. -/
def Place (n : Nat) (a : Int) : Prop := a = -1 ∨ ∃ p : Nat, a = (p : Int) ∧ p < n
theorem tree_better (g bk bo bw : Nat) (keys : List Int) (outs : List Bool) (won : List Int) (size : Nat) (a b : Int) (w : World) (h : TreeB w g bk bo bw keys outs won size) (ha : Place keys.length a) (hb : Place keys.length b) :
    Calls Tryz.prog 156 #[.pointer (some ⟨g, 0, none⟩), .int .i64 a, .int .i64 b] w fun e w' => e = .returned (.int .i64 (better (keyOf keys) a b)) ∧ Dr w w' := by
  have h0 := h.c0
  rcases ha with rfl | ⟨p, rfl, hp⟩
  · have HE := hid' (none_better (keyOf keys) b)
    clear h
    go_enter Tryz.func156, Tryz.ntmps156
    go_wp2
    go_ret
    exact ⟨ret_int HE.out.symm, (by repeat (first | exact Dr.refl _ | apply Dr.step | apply Dr.stepd))⟩
  · have hpn : ((p : Int) == -1) = false := by rw [beq_eq_false_iff_ne]; omega
    rcases hb with rfl | ⟨q, rfl, hq⟩
    · have HE := hid' (better_none (keyOf keys) (p : Int))
      clear h
      go_enter Tryz.func156, Tryz.ntmps156
      go_wp2
      go_quiet (fail)
      go_wp2
      go_ret
      exact ⟨ret_int HE.out.symm, (by repeat (first | exact Dr.refl _ | apply Dr.step | apply Dr.stepd))⟩
    · have hqn : ((q : Int) == -1) = false := by rw [beq_eq_false_iff_ne]; omega
      have cp := h.2.1.cell (keyOf_at hp)
      have cq := h.2.1.cell (keyOf_at hq)
      have p0 : (0 : Int) ≤ (p : Int) := by omega
      have q0 : (0 : Int) ≤ (q : Int) := by omega
      have p1 : (p : Int) < (keys.length : Int) := by omega
      have q1 : (q : Int) < (keys.length : Int) := by omega
      by_cases hle : keyOf keys (p : Int) ≤ keyOf keys (q : Int)
      · have HE := hid' (show better (keyOf keys) (p : Int) (q : Int) = (p : Int) by unfold better; rw [if_neg (by omega), if_pos (.inr hle)])
        clear h
        generalize keyOf keys (p : Int) = kp at *
        generalize keyOf keys (q : Int) = kq at *
        go_enter Tryz.func156, Tryz.ntmps156
        go_wp2
        go_quiet (fail)
        go_wp2
        go_ret
        exact ⟨ret_int HE.out.symm, (by repeat (first | exact Dr.refl _ | apply Dr.step | apply Dr.stepd))⟩
      · have HE := hid' (show better (keyOf keys) (p : Int) (q : Int) = (q : Int) by unfold better; rw [if_neg (by omega), if_neg (by omega)])
        clear h
        generalize keyOf keys (p : Int) = kp at *
        generalize keyOf keys (q : Int) = kq at *
        go_enter Tryz.func156, Tryz.ntmps156
        go_wp2
        go_quiet (fail)
        go_wp2
        go_ret
        exact ⟨ret_int HE.out.symm, (by repeat (first | exact Dr.refl _ | apply Dr.step | apply Dr.stepd))⟩

/-! ### play -/
theorem InvUp.place {key : Int → Int} {inn : Nat → Bool} {size i h b n : Nat} {won : Nat → Int} (hv : InvUp key inn size i h won) (hb : Node size h b) (hn : ∀ j, inn j = true → j < n) : Place n (won b) := by
  have := hv h b hb (.inl (Nat.le_refl _))
  unfold Right at this
  rcases best_in key inn (b * 2 ^ h - size) (2 ^ h) with h1 | ⟨j, h1, _, _, h2⟩
  · exact .inl (this.trans h1)
  · exact .inr ⟨j, this.trans h1, hn j h2⟩
/-- The match above height h that place i takes part in. -/
theorem up_node {H h i : Nat} (hh : h + 1 ≤ H) (hi : i < 2 ^ H) (a : Nat) (ha : a = (2 ^ H + i) / 2 ^ (h + 1)) :
    (a * 2 ^ (h + 1) ≤ 2 ^ H + i ∧ 2 ^ H + i < (a + 1) * 2 ^ (h + 1)) ∧ Node (2 ^ H) (h + 1) a ∧ 0 < a ∧ Node (2 ^ H) h (2 * a) ∧ Node (2 ^ H) h (2 * a + 1) ∧ 2 * a + 1 < 2 * 2 ^ H := by
  obtain ⟨d, rfl⟩ : ∃ d, H = d + (h + 1) := ⟨H - (h + 1), by omega⟩
  have hp : 0 < 2 ^ (h + 1) := Nat.two_pow_pos _
  have hpd : 0 < 2 ^ d := Nat.two_pow_pos _
  have hS : 2 ^ (d + (h + 1)) = 2 ^ d * 2 ^ (h + 1) := Nat.pow_add ..
  rw [hS] at hi ha ⊢
  have h1 : a * 2 ^ (h + 1) ≤ 2 ^ d * 2 ^ (h + 1) + i := by rw [ha]; exact Nat.div_mul_le_self _ _
  have h2 : 2 ^ d * 2 ^ (h + 1) + i < (a + 1) * 2 ^ (h + 1) := by
    rw [ha, Nat.add_mul, Nat.one_mul]
    have := Nat.div_add_mod' (2 ^ d * 2 ^ (h + 1) + i) (2 ^ (h + 1))
    have := Nat.mod_lt (2 ^ d * 2 ^ (h + 1) + i) hp
    omega
  have h3 : 2 ^ d ≤ a := by
    rw [ha, Nat.le_div_iff_mul_le hp]; omega
  have h4 : a + 1 ≤ 2 * 2 ^ d := by
    have : a < 2 * 2 ^ d := by
      rw [ha, Nat.div_lt_iff_lt_mul hp, Nat.mul_assoc]; omega
    omega
  have n1 : 2 ^ d * 2 ^ (h + 1) ≤ a * 2 ^ (h + 1) := Nat.mul_le_mul_right _ h3
  have n2 : (a + 1) * 2 ^ (h + 1) ≤ 2 * (2 ^ d * 2 ^ (h + 1)) := by rw [← Nat.mul_assoc]; exact Nat.mul_le_mul_right _ h4
  have e1 : 2 * a * 2 ^ h = a * 2 ^ (h + 1) := by rw [Nat.pow_succ, Nat.mul_comm 2 a, Nat.mul_assoc, Nat.mul_comm 2 (2 ^ h)]
  have e2 : (2 * a + 1) * 2 ^ h = a * 2 ^ (h + 1) + 2 ^ h := by rw [Nat.add_mul, e1, Nat.one_mul]
  have e3 : (2 * a + 1 + 1) * 2 ^ h = (a + 1) * 2 ^ (h + 1) := by rw [Nat.add_mul, e2, Nat.one_mul, Nat.add_mul, Nat.one_mul, Nat.pow_succ]; omega
  have hq : 0 < 2 ^ h := Nat.two_pow_pos _
  have e4 : (a + 1) * 2 ^ (h + 1) = a * 2 ^ (h + 1) + 2 * 2 ^ h := by rw [Nat.add_mul, Nat.one_mul, Nat.pow_succ]; omega
  refine ⟨⟨h1, h2⟩, ⟨n1, n2⟩, by omega, ⟨by rw [e1]; exact n1, by rw [e2]; omega⟩, ⟨by rw [e2]; omega, by rw [e3]; exact n2⟩, ?_⟩
  have : (a + 1) * 2 ≤ (a + 1) * 2 ^ (h + 1) := Nat.mul_le_mul_left _ (by rw [Nat.pow_succ]; omega)
  omega
theorem up_end {H h i : Nat} (hh : h ≤ H) (hi : i < 2 ^ H) : ((2 ^ H + i) / 2 ^ (h + 1) = 0) ↔ h = H := by
  constructor
  · intro h0
    rcases Nat.lt_or_ge h H with hl | hl
    · have := (up_node hl hi _ rfl).2.2.1; omega
    · omega
  · rintro rfl
    exact Nat.div_eq_of_lt (by rw [Nat.pow_succ]; omega)
theorem keep3 {w : World} {g bw a p q : Nat} {u0 u1 u2 x : Value} (c : w.cell? ⟨g, 2, none⟩ = some u0 ∧ w.cell? ⟨bw, p, none⟩ = some u1 ∧ w.cell? ⟨bw, q, none⟩ = some u2) (h1 : bw ≠ g) (h2 : p ≠ a) (h3 : q ≠ a) :
    (w.setCell ⟨bw, a, none⟩ x).cell? ⟨g, 2, none⟩ = some u0 ∧ (w.setCell ⟨bw, a, none⟩ x).cell? ⟨bw, p, none⟩ = some u1 ∧ (w.setCell ⟨bw, a, none⟩ x).cell? ⟨bw, q, none⟩ = some u2 := by
  refine ⟨?_, ?_, ?_⟩
  · rw [World.cell?_setCell_other _ _ _ _ (by intro e; injection e with e; omega)]; exact c.1
  · rw [World.cell?_setCell_other _ _ _ _ (by intro e; injection e with _ e; omega)]; exact c.2.1
  · rw [World.cell?_setCell_other _ _ _ _ (by intro e; injection e with _ e; omega)]; exact c.2.2
set_option maxRecDepth 100000 in
set_option maxHeartbeats 4000000 in
theorem tree_play (g bk bo bw H i : Nat) (keys : List Int) (outs : List Bool) (won : List Int) (inn : Nat → Bool) (w : World) (h : TreeB w g bk bo bw keys outs won (2 ^ H)) (hi : i < keys.length)
    (hin : inn i = innOf outs i) (hlt : ∀ j, inn j = true → j < keys.length)
    (hv : ∀ k a, Node (2 ^ H) k a → ¬ (a * 2 ^ k ≤ 2 ^ H + i ∧ 2 ^ H + i < (a + 1) * 2 ^ k) → Right (keyOf keys) inn (2 ^ H) k a (wonF won a)) :
    Calls Tryz.prog 122 #[.pointer (some ⟨g, 0, none⟩), .int .i64 i] w fun e w' => e = .returned (.tuple #[]) ∧
      ∃ won', TreeB w' g bk bo bw keys outs won' (2 ^ H) ∧ Inv (keyOf keys) inn (2 ^ H) (wonF won') ∧ Mod (fun k => k = bw) w w' := by
  have HT := hid' h
  have hsz := h.2.2.2.2.2.2.2.1
  have hks := h.2.2.2.2.2.2.2.2
  have hwl := h.2.2.2.2.2.2.1
  have hol := h.2.2.2.2.2.1
  have HLeaf := hid' (InvUp.leaf hv (if inn i then (i : Int) else -1) rfl)
  have HLT := hid' hlt
  have c1 := h.c1
  have c2 := h.c2
  have c3 := h.c3
  have cw := h.2.2.2.1.cell (wonF_at (won := won) (a := 2 ^ H + i) (by omega))
  have fw := h.2.2.2.1.frozen (2 ^ H + i)
  have co := h.2.2.1.cell (innOf_at (outs := outs) (p := i) (by omega))
  have hgw := h.gw
  have how := h.ow
  have hi0 : (0 : Int) ≤ (i : Int) := by omega
  have hi1 : (i : Int) < (keys.length : Int) := by omega
  obtain ⟨size, hsize⟩ : ∃ s, s = 2 ^ H := ⟨_, rfl⟩
  have HSZ := hid' hsize
  rw [← hsize] at hsz hks hwl c2 c3 cw fw
  have hs1 : ((size : Int) + (i : Int)) < ((2 * size : Nat) : Int) := by omega
  have hs0 : (0 : Int) ≤ (size : Int) + (i : Int) := by omega
  have HIN := hid' hin
  clear h hv hlt hsize hin
  generalize wonF won (size + i) = wv at cw
  go_enter Tryz.func122, Tryz.ntmps122
  by_cases hii : inn i = true
  · have hio : innOf outs i = true := by rw [← HIN.out]; exact hii
    have hvL := HLeaf.out
    rw [if_pos hii] at hvL
    rw [hio] at co
    have co' : (w.setCell ⟨bw, size + i, none⟩ (.int .i64 i)).cell? ⟨bo, i, none⟩ = some (.bool false) := by
      rw [World.cell?_setCell_other _ _ _ _ (by intro e; injection e with e; exact how e.symm)]; exact co
    have hT1 := HT.out.setW (2 ^ H + i) (i : Int)
    rw [← wonF_set (by have := HSZ.out; omega), HSZ.out.symm] at hvL
    rw [← HSZ.out] at hT1
    have HV := hid' hvL
    have HT1 := hid' hT1
    have HM1 := hid' ((Mod.refl (fun k => k = bw) w).setCell (p := ⟨bw, size + i, none⟩) (fun _ => rfl) (.int .i64 (i : Int)))
    clear hii hio hvL hT1
    go_wp2
    clear co' co cw fw c1 c2 c3
    generalize w.setCell ⟨bw, size + i, none⟩ (.int .i64 (i : Int)) = w1 at *
    generalize won.set (size + i) (i : Int) = won1 at *
    go_loopw [4] (fun v4 wr => ∃ (h : Nat) (won2 : List Int), v4 = .int .i64 (((size + i) / 2 ^ (h + 1) : Nat) : Int) ∧ h ≤ H ∧ TreeB wr g bk bo bw keys outs won2 size ∧ Hid (InvUp (keyOf keys) inn size i h (wonF won2)) ∧ Mod (fun k => k = bw) w wr) (fun v4 _ => (intOf v4).toNat)
    case atStart => exact ⟨0, won1, by go_num, Nat.zero_le _, HT1.out, HV.out, HM1.out⟩
    case round =>
      obtain ⟨h, won2, rfl, hh, hT, hV, hM⟩ := hrel
      have HT2 := hid' hT
      have HM2 := hid' hM
      have HEnd := hid' (up_end (H := H) (h := h) (i := i) hh (by have := HSZ.out; omega))
      rw [← HSZ.out] at HEnd
      by_cases hz : (size + i) / 2 ^ (h + 1) = 0
      · have hhH := HEnd.out.1 hz
        rw [hz]
        clear hT hM hz
        go_wp2
        go_end0
        subst hhH
        refine ⟨rfl, won2, ?_, ?_, HM2.out⟩
        · rw [← HSZ.out]; exact HT2.out
        · rw [← HSZ.out]; exact hV.out.top HSZ.out
      · have hlt : h + 1 ≤ H := by
          rcases Nat.lt_or_ge h H with hl | hl
          · exact hl
          · exact absurd (HEnd.out.2 (by omega)) hz
        obtain ⟨a, ha⟩ : ∃ a, a = (size + i) / 2 ^ (h + 1) := ⟨_, rfl⟩
        have hup := up_node hlt (i := i) (by have := HSZ.out; omega) a (by rw [ha, HSZ.out])
        rw [← HSZ.out] at hup
        obtain ⟨u1, u2, u3, u4, u5, u6⟩ := hup
        have HA2 := hid' (show (size + i) / 2 ^ (h + 1 + 1) = a / 2 by rw [ha, Nat.div_div_eq_div_mul, ← Nat.pow_succ])
        have hp1 := InvUp.place hV.out u4 HLT.out
        have hp2 := InvUp.place hV.out u5 HLT.out
        have HUP := hid' (hV.out.up u1 u2 u3)
        rw [← ha]
        have c2 := hT.c2
        have x0 := hT.2.2.2.1.cell (wonF_at (won := won2) (a := a) (by have := hT.2.2.2.2.2.2.1; omega))
        have f0 := hT.2.2.2.1.frozen a
        have x1 := hT.2.2.2.1.cell (wonF_at (won := won2) (a := 2 * a) (by have := hT.2.2.2.2.2.2.1; omega))
        have x2 := hT.2.2.2.1.cell (wonF_at (won := won2) (a := 2 * a + 1) (by have := hT.2.2.2.2.2.2.1; omega))
        have HSet := hid' (wonF_set (won := won2) (k := a) (by have := hT.2.2.2.2.2.2.1; omega))
        have hgl := hT.1.lt
        have hbl := hT.2.2.2.1.lt
        have HA := hid' ha
        clear hT hM hz ha HEnd
        generalize hv0 : wonF won2 a = v0 at *
        generalize hv1 : wonF won2 (2 * a) = v1 at *
        generalize hv2 : wonF won2 (2 * a + 1) = v2 at *
        have HV0 := hid' hv0
        have HV1 := hid' hv1
        have HV2 := hid' hv2
        clear hv0 hv1 hv2
        have a0 : (0 : Int) < (a : Int) := by omega
        have a1 : ((2 * a + 1 : Nat) : Int) < ((2 * size : Nat) : Int) := by omega
        have a2 : (a : Int) < ((2 * size : Nat) : Int) := by omega
        have HP := hid' fun (wx : World) (hw : Dr wr wx) => tree_better g bk bo bw keys outs won2 size v1 v2 wx (HT2.out.dr hw) hp1 hp2
        obtain ⟨m, hm⟩ : ∃ m, m = 2 * size := ⟨_, rfl⟩
        obtain ⟨p, hp⟩ : ∃ p, p = 2 * a := ⟨_, rfl⟩
        obtain ⟨q, hq⟩ : ∃ q, q = p + 1 := ⟨_, rfl⟩
        have hq2 : q = 2 * a + 1 := by omega
        rw [← hm] at c2
        rw [← hp] at x1
        rw [← hq2] at x2
        have w1 : IntKind.i64.wrap (2 * (a : Int)) = (p : Int) := by rw [IntWalk.i64_in _ (by omega)]; omega
        have w2 : IntKind.i64.wrap ((p : Int) + 1) = (q : Int) := by rw [IntWalk.i64_in _ (by omega)]; omega
        have b0 : (0 : Int) ≤ (a : Int) := by omega
        have b1 : (a : Int) < (m : Int) := by omega
        have b2 : (p : Int) < (m : Int) := by omega
        have b3 : (q : Int) < (m : Int) := by omega
        have n1 : a ≠ p := by omega
        have n2 : a ≠ q := by omega
        have n1' : p ≠ a := by omega
        have n2' : q ≠ a := by omega
        have n3 : bw ≠ g := fun e => hgw e.symm
        have a9 : (a : Int) ≤ 10000 := by omega
        clear u1 u2 u4 u5 u6 hp1 hp2 a1 a2 hm hp hq hq2 hwl hks hsz hs1 hs0
        go_wp2_with fail
        go_region_held3 (fun w' => w'.cell? ⟨g, 2, none⟩ = some (.slice (some ⟨bw, 0, none⟩) m m) ∧ w'.cell? ⟨bw, p, none⟩ = some (.int .i64 v1) ∧ w'.cell? ⟨bw, q, none⟩ = some (.int .i64 v2))
          (first | exact keep3 ⟨c2, x1, x2⟩ n3 n1' n2' | exact ⟨c2, x1, x2⟩)
          (first | (go_at_call 156; refine (HP.out _ (by repeat (first | exact Dr.refl _ | apply Dr.step | apply Dr.stepd))).mono ?_; rintro e w' ⟨rfl, nd, rfl⟩))
        have HT3 := hid' ((HT2.out.dr (w' := wr.drewN (1 + nd)) ⟨_, rfl⟩).setW a (better (keyOf keys) v1 v2))
        have HM3 := hid' (((HM2.out.drewN (1 + nd))).setCell (p := ⟨bw, a, none⟩) (fun _ => rfl) (.int .i64 (better (keyOf keys) v1 v2)))
        generalize (wr.drewN (1 + nd)).setCell ⟨bw, a, none⟩ (.int .i64 (better (keyOf keys) v1 v2)) = w3 at *
        clear c2 x0 x1 x2 f0 w1 w2 b1 b2 b3 n1 n2 n1' n2' n3
        go_wp2
        go_roundw
        case rel => exact ⟨h + 1, won2.set a (better (keyOf keys) v1 v2), by rw [HA2.out]; go_num, hlt, HT3.out, by unfold Hid; rw [HSet.out]; exact HUP.out, HM3.out⟩
        case measure => simp [intOf]; omega
  · have hio : innOf outs i = false := by rw [← HIN.out]; simpa using hii
    have hvL := HLeaf.out
    rw [if_neg hii] at hvL
    rw [hio] at co
    have co' : (w.setCell ⟨bw, size + i, none⟩ (.int .i64 i)).cell? ⟨bo, i, none⟩ = some (.bool true) := by
      rw [World.cell?_setCell_other _ _ _ _ (by intro e; injection e with e; exact how e.symm)]; exact co
    have hT1 := (HT.out.setW (2 ^ H + i) (i : Int)).setW (2 ^ H + i) (-1)
    rw [List.set_set] at hT1
    rw [← wonF_set (by have := HSZ.out; omega), HSZ.out.symm] at hvL
    rw [← HSZ.out] at hT1
    have HV := hid' hvL
    have HT1 := hid' hT1
    have HM1 := hid' (((Mod.refl (fun k => k = bw) w).setCell (p := ⟨bw, size + i, none⟩) (fun _ => rfl) (.int .i64 (i : Int))).setCell (p := ⟨bw, size + i, none⟩) (fun _ => rfl) (.int .i64 (-1)))
    clear hii hio hvL hT1
    go_wp2
    clear co' co cw fw c1 c2 c3
    generalize (w.setCell ⟨bw, size + i, none⟩ (.int .i64 (i : Int))).setCell ⟨bw, size + i, none⟩ (.int .i64 (-1)) = w1 at *
    generalize won.set (size + i) (-1) = won1 at *
    go_loopw [4] (fun v4 wr => ∃ (h : Nat) (won2 : List Int), v4 = .int .i64 (((size + i) / 2 ^ (h + 1) : Nat) : Int) ∧ h ≤ H ∧ TreeB wr g bk bo bw keys outs won2 size ∧ Hid (InvUp (keyOf keys) inn size i h (wonF won2)) ∧ Mod (fun k => k = bw) w wr) (fun v4 _ => (intOf v4).toNat)
    case atStart => exact ⟨0, won1, by go_num, Nat.zero_le _, HT1.out, HV.out, HM1.out⟩
    case round =>
      obtain ⟨h, won2, rfl, hh, hT, hV, hM⟩ := hrel
      have HT2 := hid' hT
      have HM2 := hid' hM
      have HEnd := hid' (up_end (H := H) (h := h) (i := i) hh (by have := HSZ.out; omega))
      rw [← HSZ.out] at HEnd
      by_cases hz : (size + i) / 2 ^ (h + 1) = 0
      · have hhH := HEnd.out.1 hz
        rw [hz]
        clear hT hM hz
        go_wp2
        go_end0
        subst hhH
        refine ⟨rfl, won2, ?_, ?_, HM2.out⟩
        · rw [← HSZ.out]; exact HT2.out
        · rw [← HSZ.out]; exact hV.out.top HSZ.out
      · have hlt : h + 1 ≤ H := by
          rcases Nat.lt_or_ge h H with hl | hl
          · exact hl
          · exact absurd (HEnd.out.2 (by omega)) hz
        obtain ⟨a, ha⟩ : ∃ a, a = (size + i) / 2 ^ (h + 1) := ⟨_, rfl⟩
        have hup := up_node hlt (i := i) (by have := HSZ.out; omega) a (by rw [ha, HSZ.out])
        rw [← HSZ.out] at hup
        obtain ⟨u1, u2, u3, u4, u5, u6⟩ := hup
        have HA2 := hid' (show (size + i) / 2 ^ (h + 1 + 1) = a / 2 by rw [ha, Nat.div_div_eq_div_mul, ← Nat.pow_succ])
        have hp1 := InvUp.place hV.out u4 HLT.out
        have hp2 := InvUp.place hV.out u5 HLT.out
        have HUP := hid' (hV.out.up u1 u2 u3)
        rw [← ha]
        have c2 := hT.c2
        have x0 := hT.2.2.2.1.cell (wonF_at (won := won2) (a := a) (by have := hT.2.2.2.2.2.2.1; omega))
        have f0 := hT.2.2.2.1.frozen a
        have x1 := hT.2.2.2.1.cell (wonF_at (won := won2) (a := 2 * a) (by have := hT.2.2.2.2.2.2.1; omega))
        have x2 := hT.2.2.2.1.cell (wonF_at (won := won2) (a := 2 * a + 1) (by have := hT.2.2.2.2.2.2.1; omega))
        have HSet := hid' (wonF_set (won := won2) (k := a) (by have := hT.2.2.2.2.2.2.1; omega))
        have hgl := hT.1.lt
        have hbl := hT.2.2.2.1.lt
        have HA := hid' ha
        clear hT hM hz ha HEnd
        generalize hv0 : wonF won2 a = v0 at *
        generalize hv1 : wonF won2 (2 * a) = v1 at *
        generalize hv2 : wonF won2 (2 * a + 1) = v2 at *
        have HV0 := hid' hv0
        have HV1 := hid' hv1
        have HV2 := hid' hv2
        clear hv0 hv1 hv2
        have a0 : (0 : Int) < (a : Int) := by omega
        have a1 : ((2 * a + 1 : Nat) : Int) < ((2 * size : Nat) : Int) := by omega
        have a2 : (a : Int) < ((2 * size : Nat) : Int) := by omega
        have HP := hid' fun (wx : World) (hw : Dr wr wx) => tree_better g bk bo bw keys outs won2 size v1 v2 wx (HT2.out.dr hw) hp1 hp2
        obtain ⟨m, hm⟩ : ∃ m, m = 2 * size := ⟨_, rfl⟩
        obtain ⟨p, hp⟩ : ∃ p, p = 2 * a := ⟨_, rfl⟩
        obtain ⟨q, hq⟩ : ∃ q, q = p + 1 := ⟨_, rfl⟩
        have hq2 : q = 2 * a + 1 := by omega
        rw [← hm] at c2
        rw [← hp] at x1
        rw [← hq2] at x2
        have w1 : IntKind.i64.wrap (2 * (a : Int)) = (p : Int) := by rw [IntWalk.i64_in _ (by omega)]; omega
        have w2 : IntKind.i64.wrap ((p : Int) + 1) = (q : Int) := by rw [IntWalk.i64_in _ (by omega)]; omega
        have b0 : (0 : Int) ≤ (a : Int) := by omega
        have b1 : (a : Int) < (m : Int) := by omega
        have b2 : (p : Int) < (m : Int) := by omega
        have b3 : (q : Int) < (m : Int) := by omega
        have n1 : a ≠ p := by omega
        have n2 : a ≠ q := by omega
        have n1' : p ≠ a := by omega
        have n2' : q ≠ a := by omega
        have n3 : bw ≠ g := fun e => hgw e.symm
        have a9 : (a : Int) ≤ 10000 := by omega
        clear u1 u2 u4 u5 u6 hp1 hp2 a1 a2 hm hp hq hq2 hwl hks hsz hs1 hs0
        go_wp2_with fail
        go_region_held3 (fun w' => w'.cell? ⟨g, 2, none⟩ = some (.slice (some ⟨bw, 0, none⟩) m m) ∧ w'.cell? ⟨bw, p, none⟩ = some (.int .i64 v1) ∧ w'.cell? ⟨bw, q, none⟩ = some (.int .i64 v2))
          (first | exact keep3 ⟨c2, x1, x2⟩ n3 n1' n2' | exact ⟨c2, x1, x2⟩)
          (first | (go_at_call 156; refine (HP.out _ (by repeat (first | exact Dr.refl _ | apply Dr.step | apply Dr.stepd))).mono ?_; rintro e w' ⟨rfl, nd, rfl⟩))
        have HT3 := hid' ((HT2.out.dr (w' := wr.drewN (1 + nd)) ⟨_, rfl⟩).setW a (better (keyOf keys) v1 v2))
        have HM3 := hid' (((HM2.out.drewN (1 + nd))).setCell (p := ⟨bw, a, none⟩) (fun _ => rfl) (.int .i64 (better (keyOf keys) v1 v2)))
        generalize (wr.drewN (1 + nd)).setCell ⟨bw, a, none⟩ (.int .i64 (better (keyOf keys) v1 v2)) = w3 at *
        clear c2 x0 x1 x2 f0 w1 w2 b1 b2 b3 n1 n2 n1' n2' n3
        go_wp2
        go_roundw
        case rel => exact ⟨h + 1, won2.set a (better (keyOf keys) v1 v2), by rw [HA2.out]; go_num, hlt, HT3.out, by unfold Hid; rw [HSet.out]; exact HUP.out, HM3.out⟩
        case measure => simp [intOf]; omega

/-! ### what a tree is to others -/
def IsTree (w : World) (lo hi g : Nat) (keys : List Int) (outs : List Bool) : Prop :=
  ∃ bk bo bw H won, TreeB w g bk bo bw keys outs won (2 ^ H) ∧ ((lo ≤ g ∧ g < hi) ∧ (lo ≤ bk ∧ bk < hi) ∧ (lo ≤ bo ∧ bo < hi) ∧ (lo ≤ bw ∧ bw < hi)) ∧ Inv (keyOf keys) (innOf outs) (2 ^ H) (wonF won)
def treeHas (n : Nat) (i : Int) : Bool := decide (0 ≤ i ∧ i < n)
def bSet (l : List Bool) (i : Int) (x : Bool) : List Bool := if 0 ≤ i then l.set i.toNat x else l
theorem bSet_len (l : List Bool) (i : Int) (x : Bool) : (bSet l i x).length = l.length := by unfold bSet; split <;> simp
theorem alSet_out {l : List Int} {i : Int} (h : treeHas l.length i = false) (x : Int) : alSet l i x = l := by
  unfold treeHas at h; rw [decide_eq_false_iff_not] at h
  unfold alSet; split
  · exact List.set_eq_of_length_le (by omega)
  · rfl
theorem bSet_out {l : List Bool} {i : Int} (h : treeHas l.length i = false) (x : Bool) : bSet l i x = l := by
  unfold treeHas at h; rw [decide_eq_false_iff_not] at h
  unfold bSet; split
  · exact List.set_eq_of_length_le (by omega)
  · rfl
theorem IsTree.mod {w w' : World} {lo hi g : Nat} {keys : List Int} {outs : List Bool} {S : Nat → Prop} (h : IsTree w lo hi g keys outs) (m : Mod S w w') (hs : ∀ k, lo ≤ k → k < hi → ¬ S k) : IsTree w' lo hi g keys outs := by
  obtain ⟨bk, bo, bw, H, won, h, hl, hv⟩ := h
  exact ⟨bk, bo, bw, H, won, h.mod m (hs _ hl.1.1 hl.1.2) (hs _ hl.2.1.1 hl.2.1.2) (hs _ hl.2.2.1.1 hl.2.2.1.2) (hs _ hl.2.2.2.1 hl.2.2.2.2), hl, hv⟩
theorem IsTree.len {w : World} {lo hi g : Nat} {keys : List Int} {outs : List Bool} (h : IsTree w lo hi g keys outs) : outs.length = keys.length ∧ keys.length ≤ 4096 := by
  obtain ⟨bk, bo, bw, H, won, h, hl, hv⟩ := h
  exact ⟨h.2.2.2.2.2.1, Nat.le_trans h.2.2.2.2.2.2.2.2 h.2.2.2.2.2.2.2.1⟩
theorem tree_has (g bk bo bw : Nat) (keys : List Int) (outs : List Bool) (won : List Int) (size : Nat) (i : Int) (w : World) (h : TreeB w g bk bo bw keys outs won size) :
    Calls Tryz.prog 138 #[.pointer (some ⟨g, 0, none⟩), .int .i64 i] w fun e w' => e = .returned (.bool (treeHas keys.length i)) ∧ w = w' := by
  have h0 := h.c0
  clear h
  by_cases c1 : i < 0
  · have HE := hid' (show treeHas keys.length i = false from decide_eq_false (by omega))
    go_enter Tryz.func138, Tryz.ntmps138
    go_wp2
    go_ret
    exact ⟨ret_bool HE.out.symm, rfl⟩
  · by_cases c2 : i < (keys.length : Int)
    · have HE := hid' (show treeHas keys.length i = true from decide_eq_true (by omega))
      go_enter Tryz.func138, Tryz.ntmps138
      go_wp2
      go_ret
      exact ⟨ret_bool HE.out.symm, rfl⟩
    · have HE := hid' (show treeHas keys.length i = false from decide_eq_false (by omega))
      go_enter Tryz.func138, Tryz.ntmps138
      go_wp2
      go_ret
      exact ⟨ret_bool HE.out.symm, rfl⟩
theorem Inv.fit {key : Int → Int} {inn : Nat → Bool} {size i : Nat} {won : Nat → Int} {key' : Int → Int} {inn' : Nat → Bool} (h : Inv key inn size won) (hi : ∀ j : Nat, j ≠ i → inn j = inn' j ∧ key j = key' j) :
    ∀ k a, Node size k a → ¬ (a * 2 ^ k ≤ size + i ∧ size + i < (a + 1) * 2 ^ k) → Right key' inn' size k a (won a) := h.change hi
theorem keyOf_set {keys : List Int} {p j : Nat} (h : j ≠ p) (x : Int) : keyOf (keys.set p x) (j : Int) = keyOf keys (j : Int) := by
  unfold keyOf; rw [Int.toNat_natCast, List.getD_eq_getElem?_getD, List.getD_eq_getElem?_getD, List.getElem?_set_ne (fun e => h e.symm)]
theorem innOf_set {outs : List Bool} {p j : Nat} (h : j ≠ p) (x : Bool) : innOf (outs.set p x) j = innOf outs j := by
  unfold innOf; rw [List.getD_eq_getElem?_getD, List.getD_eq_getElem?_getD, List.getElem?_set_ne (fun e => h e.symm)]
theorem tree_Set (lo hi g : Nat) (keys : List Int) (outs : List Bool) (i x : Int) (w : World) (h : IsTree w lo hi g keys outs) :
    Calls Tryz.prog 123 #[.pointer (some ⟨g, 0, none⟩), .int .i64 i, .int .i64 x] w fun e w' => e = .returned (.bool (treeHas keys.length i)) ∧ IsTree w' lo hi g (alSet keys i x) outs ∧ Mod (fun k => lo ≤ k ∧ k < hi) w w' := by
  have HI := hid' h
  obtain ⟨bk, bo, bw, H, won, h, hl, hv⟩ := h
  have HT := hid' h
  have h0 := h.c0
  cases hh : treeHas keys.length i
  · have HH := hid' hh
    have HS := hid' (alSet_out hh x)
    clear h hh
    go_enter Tryz.func123, Tryz.ntmps123
    go_wp2_with fail
    refine (tree_has g bk bo bw keys outs won (2 ^ H) i _ HT.out).mono ?_
    rintro e w' ⟨rfl, rfl⟩
    rw [HH.out]
    go_wp2
    go_ret
    exact ⟨rfl, by rw [HS.out]; exact HI.out, Mod.refl _ _⟩
  · have HH := hid' hh
    have hr : 0 ≤ i ∧ i < keys.length := of_decide_eq_true hh
    obtain ⟨p, rfl⟩ := Int.eq_ofNat_of_zero_le hr.1
    have hp : p < keys.length := by omega
    have c0 := h.2.1.cell (keyOf_at hp)
    have f0 := h.2.1.frozen p
    have p0 : (0 : Int) ≤ (p : Int) := by omega
    have p1 : (p : Int) < (keys.length : Int) := by omega
    have hT1 := h.setK p x
    have HT1 := hid' hT1
    have hpl := tree_play g bk bo bw H p (keys.set p x) outs won (innOf outs) (w.setCell ⟨bk, p, none⟩ (.int .i64 x)) hT1 (by rw [List.length_set]; exact hp) rfl (fun j hj => by rw [List.length_set, ← h.2.2.2.2.2.1]; exact innOf_lt hj)
      (Inv.fit hv (fun j hj => ⟨rfl, (keyOf_set hj x).symm⟩))
    have HPL := hid' hpl
    have HM := hid' ((Mod.refl (fun k => lo ≤ k ∧ k < hi) w).setCell (p := ⟨bk, p, none⟩) (fun _ => hl.2.1) (.int .i64 x))
    have HL := hid' hl
    have HS := hid' (show alSet keys (p : Int) x = keys.set p x by unfold alSet; rw [if_pos p0]; simp)
    clear h hh hT1 hpl hr hl
    generalize keyOf keys (p : Int) = kp at *
    go_enter Tryz.func123, Tryz.ntmps123
    go_wp2_with fail
    refine (tree_has g bk bo bw keys outs won (2 ^ H) p _ HT.out).mono ?_
    rintro e w' ⟨rfl, rfl⟩
    rw [HH.out]
    go_wp2_with fail
    refine HPL.out.mono ?_
    rintro e w' ⟨rfl, won', h1, h2, h3⟩
    go_wp2
    go_ret
    exact ⟨rfl, by rw [HS.out]; exact ⟨bk, bo, bw, H, won', h1, HL.out, h2⟩, HM.out.then_ h3 (by rintro k _ rfl; exact HL.out.2.2.2)⟩
theorem tree_Leave (lo hi g : Nat) (keys : List Int) (outs : List Bool) (i : Int) (x : Bool) (w : World) (h : IsTree w lo hi g keys outs) :
    Calls Tryz.prog 124 #[.pointer (some ⟨g, 0, none⟩), .int .i64 i, .bool x] w fun e w' => e = .returned (.bool (treeHas keys.length i)) ∧ IsTree w' lo hi g keys (bSet outs i x) ∧ Mod (fun k => lo ≤ k ∧ k < hi) w w' := by
  have HI := hid' h
  obtain ⟨bk, bo, bw, H, won, h, hl, hv⟩ := h
  have HT := hid' h
  have h1 := h.c1
  have hol := h.2.2.2.2.2.1
  cases hh : treeHas keys.length i
  · have HH := hid' hh
    have HS := hid' (bSet_out (l := outs) (by rw [hol]; exact hh) x)
    clear h hh hol
    go_enter Tryz.func124, Tryz.ntmps124
    go_wp2_with fail
    refine (tree_has g bk bo bw keys outs won (2 ^ H) i _ HT.out).mono ?_
    rintro e w' ⟨rfl, rfl⟩
    rw [HH.out]
    go_wp2
    go_ret
    exact ⟨rfl, by rw [HS.out]; exact HI.out, Mod.refl _ _⟩
  · have HH := hid' hh
    have hr : 0 ≤ i ∧ i < keys.length := of_decide_eq_true hh
    obtain ⟨p, rfl⟩ := Int.eq_ofNat_of_zero_le hr.1
    have hp : p < keys.length := by omega
    have c0 := h.2.2.1.cell (innOf_at (outs := outs) (p := p) (by omega))
    have f0 := h.2.2.1.frozen p
    have p0 : (0 : Int) ≤ (p : Int) := by omega
    have p1 : (p : Int) < (keys.length : Int) := by omega
    have hT1 := h.setO p x
    have hpl := tree_play g bk bo bw H p keys (outs.set p x) won (innOf (outs.set p x)) (w.setCell ⟨bo, p, none⟩ (.bool x)) hT1 hp rfl (fun j hj => by have := innOf_lt hj; rw [List.length_set] at this; omega)
      (Inv.fit hv (fun j hj => ⟨(innOf_set hj x).symm, rfl⟩))
    have HPL := hid' hpl
    have HM := hid' ((Mod.refl (fun k => lo ≤ k ∧ k < hi) w).setCell (p := ⟨bo, p, none⟩) (fun _ => hl.2.2.1) (.bool x))
    have HL := hid' hl
    have HS := hid' (show bSet outs (p : Int) x = outs.set p x by unfold bSet; rw [if_pos p0]; simp)
    clear h hh hT1 hpl hr hl hol
    generalize innOf outs p = kp at *
    go_enter Tryz.func124, Tryz.ntmps124
    go_wp2_with fail
    refine (tree_has g bk bo bw keys outs won (2 ^ H) p _ HT.out).mono ?_
    rintro e w' ⟨rfl, rfl⟩
    rw [HH.out]
    go_wp2_with fail
    refine HPL.out.mono ?_
    rintro e w' ⟨rfl, won', h1, h2, h3⟩
    go_wp2
    go_ret
    exact ⟨rfl, by rw [HS.out]; exact ⟨bk, bo, bw, H, won', h1, HL.out, h2⟩, HM.out.then_ h3 (by rintro k _ rfl; exact HL.out.2.2.2)⟩
def treeKey (keys : List Int) (i : Int) : Int := if treeHas keys.length i = true then keyOf keys i else 0
theorem tree_Key (lo hi g : Nat) (keys : List Int) (outs : List Bool) (i : Int) (w : World) (h : IsTree w lo hi g keys outs) :
    Calls Tryz.prog 103 #[.pointer (some ⟨g, 0, none⟩), .int .i64 i] w fun e w' => e = .returned (.int .i64 (treeKey keys i)) ∧ w = w' := by
  obtain ⟨bk, bo, bw, H, won, h, hl, hv⟩ := h
  have HT := hid' h
  have h0 := h.c0
  cases hh : treeHas keys.length i
  · have HH := hid' hh
    have HS := hid' (show treeKey keys i = 0 by unfold treeKey; rw [if_neg (by rw [hh]; simp)])
    clear h hh
    go_enter Tryz.func103, Tryz.ntmps103
    go_wp2_with fail
    refine (tree_has g bk bo bw keys outs won (2 ^ H) i _ HT.out).mono ?_
    rintro e w' ⟨rfl, rfl⟩
    rw [HH.out]
    go_wp2
    go_ret
    exact ⟨ret_int HS.out.symm, rfl⟩
  · have HH := hid' hh
    have hr : 0 ≤ i ∧ i < keys.length := of_decide_eq_true hh
    have HS := hid' (show treeKey keys i = keyOf keys i by unfold treeKey; rw [if_pos hh])
    obtain ⟨p, rfl⟩ := Int.eq_ofNat_of_zero_le hr.1
    have hp : p < keys.length := by omega
    have c0 := h.2.1.cell (keyOf_at hp)
    have p0 : (0 : Int) ≤ (p : Int) := by omega
    have p1 : (p : Int) < (keys.length : Int) := by omega
    clear h hh hr
    generalize keyOf keys (p : Int) = kp at *
    go_enter Tryz.func103, Tryz.ntmps103
    go_wp2_with fail
    refine (tree_has g bk bo bw keys outs won (2 ^ H) p _ HT.out).mono ?_
    rintro e w' ⟨rfl, rfl⟩
    rw [HH.out]
    go_wp2
    go_ret
    exact ⟨ret_int HS.out.symm, rfl⟩
/-- The place of the least one; -1: there is none. -/
def treeBest (keys : List Int) (outs : List Bool) : Int := best (keyOf keys) (innOf outs) 0 keys.length
def treeLK (keys : List Int) (outs : List Bool) : Int := if treeBest keys outs = -1 then 0 else keyOf keys (treeBest keys outs)
def treeLP (keys : List Int) (outs : List Bool) : Int := if treeBest keys outs = -1 then 0 else treeBest keys outs
def treeLO (keys : List Int) (outs : List Bool) : Bool := treeBest keys outs != -1
theorem best_more (key : Int → Int) (inn : Nat → Bool) (n m : Nat) (h : n ≤ m) (hn : ∀ j, inn j = true → j < n) : best key inn 0 m = best key inn 0 n := by
  obtain ⟨d, rfl⟩ : ∃ d, m = n + d := ⟨m - n, by omega⟩
  rw [best_add, best_out key inn (0 + n) d (fun i h1 h2 => by
    cases hh : inn i
    · rfl
    · have := hn i hh; omega), better_none]
theorem tree_Least (lo hi g : Nat) (keys : List Int) (outs : List Bool) (w : World) (h : IsTree w lo hi g keys outs) :
    Calls Tryz.prog 160 #[.pointer (some ⟨g, 0, none⟩)] w fun e w' => e = .returned (.tuple #[.int .i64 (treeLK keys outs), .int .i64 (treeLP keys outs), .bool (treeLO keys outs)]) ∧ w = w' := by
  obtain ⟨bk, bo, bw, H, won, h, hl, hv⟩ := h
  have h0 := h.c0
  have h2 := h.c2
  have hw1 : wonF won 1 = treeBest keys outs := by
    rw [hv.first rfl]; exact best_more _ _ _ _ h.2.2.2.2.2.2.2.2 (fun j hj => by rw [← h.2.2.2.2.2.1]; exact innOf_lt hj)
  have hp2 : 1 ≤ 2 ^ H := Nat.one_le_two_pow
  have hc := h.2.2.2.1.cell (wonF_at (won := won) (a := 1) (by have := h.2.2.2.2.2.2.1; omega))
  rw [hw1] at hc
  obtain ⟨m, hm⟩ : ∃ m, m = 2 * 2 ^ H := ⟨_, rfl⟩
  rw [← hm] at h2
  have hm1 : (1 : Int) < (m : Int) := by omega
  by_cases hb : treeBest keys outs = -1
  · have HK := hid' (show treeLK keys outs = 0 ∧ treeLP keys outs = 0 ∧ treeLO keys outs = false by unfold treeLK treeLP treeLO; rw [hb]; simp)
    rw [hb] at hc
    clear h hw1 hp2 hm hb
    go_enter Tryz.func160, Tryz.ntmps160
    go_wp2
    go_ret3
    exact ⟨by rw [HK.out.1, HK.out.2.1, HK.out.2.2]; rfl, rfl⟩
  · have HK := hid' (show treeLK keys outs = keyOf keys (treeBest keys outs) ∧ treeLP keys outs = treeBest keys outs ∧ treeLO keys outs = true by unfold treeLK treeLP treeLO; rw [if_neg hb, if_neg hb]; simp [hb])
    rcases best_in (keyOf keys) (innOf outs) 0 keys.length with h9 | ⟨q, hq, _, hqn, _⟩
    · exact absurd h9 hb
    · have hq : treeBest keys outs = (q : Int) := hq
      have c0 := h.2.1.cell (keyOf_at (keys := keys) (p := q) (by omega))
      have q0 : (0 : Int) ≤ (q : Int) := by omega
      have q1 : (q : Int) < (keys.length : Int) := by omega
      have q2 : ((q : Int) == -1) = false := by rw [beq_eq_false_iff_ne]; omega
      rw [hq] at HK hc
      clear h hw1 hp2 hm hb hq
      generalize keyOf keys (q : Int) = kq at *
      go_enter Tryz.func160, Tryz.ntmps160
      go_wp2
      go_ret3
      exact ⟨by rw [HK.out.1, HK.out.2.1, HK.out.2.2]; rfl, rfl⟩
end Go.Proofs.YtockkjhciojgbaaGreatDoor
/- TreeNew -/
/- A tree anew. No condition. -/
namespace Go.Proofs.YtockkjhciojgbaaGreatDoor
set_option maxRecDepth 100000
set_option linter.unusedSimpArgs false
open Go.RowKit
set_option linter.unusedVariables false

theorem Inv.none (key : Int → Int) (inn : Nat → Bool) (size m : Nat) (h : ∀ j, inn j = false) : Inv key inn size (wonF (List.replicate m (-1))) := by
  intro k a hn
  unfold Right
  rw [best_out _ _ _ _ (fun i _ _ => h i)]
  unfold wonF
  rw [List.getD_eq_getElem?_getD, List.getElem?_replicate]
  split <;> rfl
theorem innOf_new (n j : Nat) : innOf (List.replicate n false) j = decide (j < n) := by
  unfold innOf
  rw [List.getD_eq_getElem?_getD, List.getElem?_replicate]
  by_cases h : j < n <;> simp [h]
/-- What stands behind the first statement. -/
def New1 (w w1 : World) (g bk bo n : Nat) : Prop :=
  Blk w1 g 185 #[.slice (some ⟨bk, 0, none⟩) n n, .slice (some ⟨bo, 0, none⟩) n n, .slice none 0 0, .int .i64 1] ∧ BlkL (Value.int .i64) w1 bk 3 (List.replicate n 0) ∧ BlkL Value.bool w1 bo 4 (List.replicate n false) ∧
  Below w.heap.size w w1 ∧ w.heap.size ≤ g ∧ w.heap.size ≤ bk ∧ w.heap.size ≤ bo
theorem new1_a (w : World) (n : Nat) : New1 w (((w.alloc (.cells (madeCells #[Value.int .i64 0] n) 3)).alloc (.cells (madeCells #[Value.bool false] n) 4)).alloc
    (.cells #[.slice (some ⟨w.heap.size, 0, none⟩) n n, .slice (some ⟨w.heap.size + 1, 0, none⟩) n n, .slice none 0 0, .int .i64 1] 185)) (w.heap.size + 2) w.heap.size (w.heap.size + 1) n := by
  refine ⟨?_, ((BlkL.made' (f := Value.int .i64) w 3 0 n).alloc _).alloc _, ?_, (by repeat (first | assumption | apply bel_alloc | apply bel_drewN | apply bel_drew | exact bel_refl _)), by omega, by omega, by omega⟩
  · have := Blk.new_ ((w.alloc (.cells (madeCells #[Value.int .i64 0] n) 3)).alloc (.cells (madeCells #[Value.bool false] n) 4)) 185 #[.slice (some ⟨w.heap.size, 0, none⟩) n n, .slice (some ⟨w.heap.size + 1, 0, none⟩) n n, .slice none 0 0, .int .i64 1]
    simpa using this
  · have := (BlkL.made' (f := Value.bool) (w.alloc (.cells (madeCells #[Value.int .i64 0] n) 3)) 4 false n)
    have h2 := this.alloc (.cells #[.slice (some ⟨w.heap.size, 0, none⟩) n n, .slice (some ⟨w.heap.size + 1, 0, none⟩) n n, .slice none 0 0, .int .i64 1] 185)
    simpa using h2
theorem new1_b (w : World) (n : Nat) : New1 w (((w.alloc (.cells (madeCells #[Value.bool false] n) 4)).alloc (.cells (madeCells #[Value.int .i64 0] n) 3)).alloc
    (.cells #[.slice (some ⟨w.heap.size + 1, 0, none⟩) n n, .slice (some ⟨w.heap.size, 0, none⟩) n n, .slice none 0 0, .int .i64 1] 185)) (w.heap.size + 2) (w.heap.size + 1) w.heap.size n := by
  refine ⟨?_, ?_, ((BlkL.made' (f := Value.bool) w 4 false n).alloc _).alloc _, (by repeat (first | assumption | apply bel_alloc | apply bel_drewN | apply bel_drew | exact bel_refl _)), by omega, by omega, by omega⟩
  · have := Blk.new_ ((w.alloc (.cells (madeCells #[Value.bool false] n) 4)).alloc (.cells (madeCells #[Value.int .i64 0] n) 3)) 185 #[.slice (some ⟨w.heap.size + 1, 0, none⟩) n n, .slice (some ⟨w.heap.size, 0, none⟩) n n, .slice none 0 0, .int .i64 1]
    simpa using this
  · have := (BlkL.made' (f := Value.int .i64) (w.alloc (.cells (madeCells #[Value.bool false] n) 4)) 3 0 n)
    have h2 := this.alloc (.cells #[.slice (some ⟨w.heap.size + 1, 0, none⟩) n n, .slice (some ⟨w.heap.size, 0, none⟩) n n, .slice none 0 0, .int .i64 1] 185)
    simpa using h2

theorem New1.drew {w w1 : World} {g bk bo n : Nat} (h : New1 w w1 g bk bo n) : New1 w w1.drew g bk bo n := ⟨h.1, h.2.1, h.2.2.1, bel_drew h.2.2.2.1, h.2.2.2.2⟩
theorem node_rep (key : Int → Int) (n : Nat) : (fun j => decide (j < n)) = innOf (List.replicate n false) := by funext j; exact (innOf_new n j).symm
theorem pow_next {H m : Nat} (h : 2 ^ H < m) (hm : m ≤ 1000) : 2 ^ (H + 1) ≤ 2000 := by rw [Nat.pow_succ]; omega

set_option maxRecDepth 100000 in
set_option maxHeartbeats 4000000 in
theorem tree_New (n : Int) (w : World) (hn : n ≤ 1000) :
    Calls Tryz.prog 80 #[.int .i64 n] w fun e w' => ∃ g, e = .returned (.pointer (some ⟨g, 0, none⟩)) ∧ IsTree w' w.heap.size w'.heap.size g (List.replicate n.toNat 0) (List.replicate n.toNat false) ∧ Below w.heap.size w w' := by
  obtain ⟨m, hm⟩ : ∃ m : Nat, max n 0 = (m : Int) := ⟨n.toNat, by omega⟩
  have HN := hid' (show n.toNat = m by omega)
  have hm1 : m ≤ 1000 := by omega
  have hmk := mk1_run (P := Tryz.prog) 99 3 (.int .i64 0) 8 Tryz.underlying99 (by kernel_rfl) rfl m (by omega) (by omega)
  have hmb := mk1_run (P := Tryz.prog) 183 4 (.bool false) 1 Tryz.underlying183 (by kernel_rfl) rfl m (by omega) (by omega)
  go_enter Tryz.func80, Tryz.ntmps80
  go_wp2
  go_region
  · have hN := (new1_a w m).drew
    revert hN
    generalize (((w.alloc (.cells (madeCells #[Value.int .i64 0] m) 3)).alloc (.cells (madeCells #[Value.bool false] m) 4)).alloc (.cells #[.slice (some ⟨w.heap.size, 0, none⟩) m m, .slice (some ⟨w.heap.size + 1, 0, none⟩) m m, .slice none 0 0, .int .i64 1] 185)).drew = w1
    generalize w.heap.size + 2 = g
    generalize w.heap.size + 1 = bo
    generalize w.heap.size = bk
    intro hN
    obtain ⟨hg, hk, ho, hb, b1, b2, b3⟩ := hN
    have HK := hid' hk
    have HO := hid' ho
    have HG := hid' hg
    have HB := hid' hb
    have hgk : g ≠ bk := Blk.ne hg hk (by decide)
    have hgo : g ≠ bo := Blk.ne hg ho (by decide)
    have hko : bk ≠ bo := Blk.ne hk ho (by decide)
    clear hg hk ho hb hmk hmb
    go_wp2
    go_loopw [14] (fun v14 wr => ∃ H : Nat, 2 ^ H ≤ 2000 ∧ Hid (Blk wr g 185 #[.slice (some ⟨bk, 0, none⟩) m m, .slice (some ⟨bo, 0, none⟩) m m, .slice none 0 0, .int .i64 ((2 ^ H : Nat) : Int)] ∧ BlkL (Value.int .i64) wr bk 3 (List.replicate m 0) ∧ BlkL Value.bool wr bo 4 (List.replicate m false) ∧ Below w.heap.size w wr)) (fun _ wr => 4000 - (intOf ((wr.cell? ⟨g, 3, none⟩).getD undef)).toNat)
    case atStart => exact ⟨0, by decide, HG.out, HK.out, HO.out, HB.out⟩
    case round =>
      obtain ⟨H, hH, hh⟩ := hrel
      have h3 : wr.cell? ⟨g, 3, none⟩ = some (.int .i64 ((2 ^ H : Nat) : Int)) := by simpa using hh.out.1.cell 3
      have f3 := hh.out.1.frozen 3
      have HH := hh
      clear hh
      by_cases hlt : ((2 ^ H : Nat) : Int) < n
      · have hpn := pow_next (m := m) (H := H) (by omega) hm1
        have HP := hid' (Nat.pow_succ 2 H)
        generalize hs : 2 ^ H = s at *
        have hs2 : (s : Int) ≤ 2000 := by omega
        have hs1 : 1 ≤ s := by rw [← hs]; exact Nat.one_le_two_pow
        have HS := hid' hs
        clear hs
        go_wp2
        go_roundw
        case rel =>
          refine ⟨H + 1, hpn, ?_⟩
          refine ⟨(HH.out.1.set 3 _).cast ?_, HH.out.2.1.far (p := ⟨g, 3, none⟩) hgk.symm _, HH.out.2.2.1.far (p := ⟨g, 3, none⟩) hgo.symm _, bel_set HH.out.2.2.2 b1 _⟩
          have e2 : (s : Int) * 2 = ((2 ^ (H + 1) : Nat) : Int) := by have := HP.out; have h1 : 2 ^ (H + 1) = s * 2 := this; rw [h1]; omega
          simp only [e2]
          simp
        case measure =>
          rw [World.cell?_setCell_same _ _ _ h3, h3]
          simp [intOf]; omega
      · have hp1 : 1 ≤ 2 ^ H := Nat.one_le_two_pow
        generalize hs : 2 ^ H = s at *
        have HPW := hid' (show m ≤ s by omega)
        have HS := hid' hs
        obtain ⟨z, hz⟩ : ∃ z, z = 2 * s := ⟨_, rfl⟩
        have hz2 : 2 * (s : Int) = (z : Int) := by omega
        have hz3 : z ≤ 4000 := by omega
        have hmk := mk1_run (P := Tryz.prog) 99 3 (.int .i64 0) 8 Tryz.underlying99 (by kernel_rfl) rfl z (by omega) (by omega)
        have h2 : wr.cell? ⟨g, 2, none⟩ = some (.slice none 0 0) := by simpa using HH.out.1.cell 2
        have f2 := HH.out.1.frozen 2
        have hgl := HH.out.1.lt
        have h2' := (World.cell?_of_block (w := wr) (w' := wr.alloc (.cells (madeCells #[Value.int .i64 0] z) 3)) (a := ⟨g, 2, none⟩) (Below.heap_alloc _ _ _ hgl)).trans h2
        have HZ := hid' hz
        clear hs hz
        have hG1 := ((HH.out.1.set 2 (.slice (some ⟨wr.heap.size, 0, none⟩) z z)).cast (cs' := #[.slice (some ⟨bk, 0, none⟩) m m, .slice (some ⟨bo, 0, none⟩) m m, .slice (some ⟨wr.heap.size, 0, none⟩) z z, .int .i64 (s : Int)]) (by simp)).alloc (.cells (madeCells #[Value.int .i64 0] z) 3)
        have hK1 := (HH.out.2.1.far (p := ⟨g, 2, none⟩) hgk.symm (.slice (some ⟨wr.heap.size, 0, none⟩) z z)).alloc (.cells (madeCells #[Value.int .i64 0] z) 3)
        have hO1 := (HH.out.2.2.1.far (p := ⟨g, 2, none⟩) hgo.symm (.slice (some ⟨wr.heap.size, 0, none⟩) z z)).alloc (.cells (madeCells #[Value.int .i64 0] z) 3)
        have hW1 := BlkL.made' (f := Value.int .i64) (wr.setCell ⟨g, 2, none⟩ (.slice (some ⟨wr.heap.size, 0, none⟩) z z)) 3 0 z
        rw [show (wr.setCell ⟨g, 2, none⟩ (.slice (some ⟨wr.heap.size, 0, none⟩) z z)).heap.size = wr.heap.size by simp] at hW1
        have hB1 := bel_alloc (bel_set HH.out.2.2.2 (p := ⟨g, 2, none⟩) b1 (.slice (some ⟨wr.heap.size, 0, none⟩) z z)) (.cells (madeCells #[Value.int .i64 0] z) 3)
        have b4 : w.heap.size ≤ wr.heap.size := HH.out.2.2.2.size
        have hkl := HH.out.2.1.lt
        have hol := HH.out.2.2.1.lt
        have HG1 := hid' hG1
        have HK1 := hid' hK1
        have HO1 := hid' hO1
        have HW1 := hid' hW1
        have HB1 := hid' hB1
        clear hG1 hK1 hO1 hW1 hB1
        go_wp2_with fail
        clear h2 h2' h3 f2 f3 hmk HH
        generalize (wr.setCell ⟨g, 2, none⟩ (.slice (some ⟨wr.heap.size, 0, none⟩) z z)).alloc (.cells (madeCells #[Value.int .i64 0] z) 3) = w2 at *
        generalize wr.heap.size = bw at *
        have hgw : g ≠ bw := by omega
        have hkw : bk ≠ bw := by omega
        have how : bo ≠ bw := by omega
        go_loopw [41] (fun v41 wr => ∃ k : Nat, k ≤ z ∧ v41 = .int .i64 k ∧ BlkL (Value.int .i64) wr bw 3 (List.replicate k (-1) ++ List.replicate (z - k) 0) ∧ Mod (fun k => k = bw) w2 wr) (fun v41 _ => z - (intOf v41).toNat)
        case atStart => exact ⟨0, Nat.zero_le _, rfl, by simpa using HW1.out, Mod.refl _ _⟩
        case round =>
          obtain ⟨k, hk, rfl, hb, hM⟩ := hrel
          have HBb := hid' hb
          have HM := hid' hM
          by_cases hlt2 : k < z
          · have c2 : wr.cell? ⟨g, 2, none⟩ = some (.slice (some ⟨bw, 0, none⟩) z z) := by simpa using (HG1.out.mod hM hgw).cell 2
            have hc := hb.cell (fill_get (-1) 0 hlt2)
            have hf := hb.frozen k
            clear hb hM
            go_wp2
            go_roundw
            case rel => exact ⟨k + 1, by omega, by go_num, by rw [← fill_set (-1) 0 hlt2]; exact HBb.out.set k (-1), HM.out.setCell (p := ⟨bw, k, none⟩) (fun _ => rfl) _⟩
            case measure => simp [intOf]; omega
          · have hkz : k = z := by omega
            subst hkz
            rw [Nat.sub_self, List.replicate_zero, List.append_nil] at hb
            have c0 : wr.cell? ⟨g, 0, none⟩ = some (.slice (some ⟨bk, 0, none⟩) m m) := by simpa using (HG1.out.mod hM hgw).cell 0
            have hT : TreeB wr g bk bo bw (List.replicate m 0) (List.replicate m false) (List.replicate k (-1)) s :=
              ⟨by rw [List.length_replicate, ← HZ.out]; exact HG1.out.mod hM hgw, HK1.out.mod hM hkw, HO1.out.mod hM how, hb, hkw, by simp, by rw [List.length_replicate]; exact HZ.out, by omega, by rw [List.length_replicate]; exact HPW.out⟩
            have HT := hid' hT
            have HIv := hid' (Inv.none (keyOf (List.replicate m 0)) (fun j => decide (j < 0)) s k (by intro j; simp))
            have HBw := hid' (bel_mod HB1.out hM (by intro i hi; omega))
            clear hb hM hT HBb HM
            go_wp2
            clear c0
            go_loopw [56] (fun v56 wr => ∃ (i : Nat) (won : List Int), i ≤ m ∧ v56 = .int .i64 i ∧ TreeB wr g bk bo bw (List.replicate m 0) (List.replicate m false) won s ∧ Hid (Inv (keyOf (List.replicate m 0)) (fun j => decide (j < i)) s (wonF won)) ∧ Below w.heap.size w wr) (fun v56 _ => m - (intOf v56).toNat)
            case atStart => exact ⟨0, _, Nat.zero_le _, rfl, HT.out, HIv.out, HBw.out⟩
            case round =>
              obtain ⟨i, won, hi, rfl, hT, hV, hbw⟩ := hrel
              by_cases hlt3 : i < m
              · have hpl := tree_play g bk bo bw H i (List.replicate m 0) (List.replicate m false) won (fun j => decide (j < i + 1)) wr (by rw [HS.out]; exact hT) (by rw [List.length_replicate]; exact hlt3) (by rw [innOf_new]; simp [hlt3])
                  (fun j hj => by rw [List.length_replicate]; have := of_decide_eq_true hj; omega)
                  (Inv.fit (by rw [HS.out]; exact hV.out) (fun j hj => ⟨by show decide (j < i) = decide (j < i + 1); rw [Bool.eq_iff_iff]; simp; omega, rfl⟩))
                have HPL := hid' hpl
                clear hT hpl
                go_wp2_with fail
                refine HPL.out.mono ?_
                rintro e w' ⟨rfl, won', h1, h2, h3⟩
                have HX := hid' (show TreeB w' g bk bo bw (List.replicate m 0) (List.replicate m false) won' s ∧ Inv (keyOf (List.replicate m 0)) (fun j => decide (j < i + 1)) s (wonF won') ∧ Below w.heap.size w w' from by
                  rw [← HS.out]; exact ⟨h1, h2, bel_mod hbw h3 (by intro i hi; omega)⟩)
                clear h1 h2 h3 hbw HPL
                go_wp2
                go_roundw
                case rel => exact ⟨i + 1, won', by omega, by go_num, HX.out.1, HX.out.2.1, HX.out.2.2⟩
                case measure => simp [intOf]; omega
              · have him : i = m := by omega
                subst him
                have HT2 := hid' hT
                clear hT
                go_wp2
                go_ret
                refine ⟨g, rfl, ?_, hbw⟩
                rw [HN.out]
                have l1 := HT2.out.1.lt
                have l2 := HT2.out.2.1.lt
                have l3 := HT2.out.2.2.1.lt
                have l4 := HT2.out.2.2.2.1.lt
                refine ⟨bk, bo, bw, H, won, by rw [HS.out]; exact HT2.out, ⟨⟨b1, l1⟩, ⟨b2, l2⟩, ⟨b3, l3⟩, ⟨b4, l4⟩⟩, ?_⟩
                rw [HS.out, ← node_rep (keyOf (List.replicate i 0)) i]
                exact hV.out
  · have hN := (new1_b w m).drew
    revert hN
    generalize (((w.alloc (.cells (madeCells #[Value.bool false] m) 4)).alloc (.cells (madeCells #[Value.int .i64 0] m) 3)).alloc (.cells #[.slice (some ⟨w.heap.size + 1, 0, none⟩) m m, .slice (some ⟨w.heap.size, 0, none⟩) m m, .slice none 0 0, .int .i64 1] 185)).drew = w1
    generalize w.heap.size + 2 = g
    generalize w.heap.size + 1 = bk
    generalize w.heap.size = bo
    intro hN
    obtain ⟨hg, hk, ho, hb, b1, b2, b3⟩ := hN
    have HK := hid' hk
    have HO := hid' ho
    have HG := hid' hg
    have HB := hid' hb
    have hgk : g ≠ bk := Blk.ne hg hk (by decide)
    have hgo : g ≠ bo := Blk.ne hg ho (by decide)
    have hko : bk ≠ bo := Blk.ne hk ho (by decide)
    clear hg hk ho hb hmk hmb
    go_wp2
    go_loopw [14] (fun v14 wr => ∃ H : Nat, 2 ^ H ≤ 2000 ∧ Hid (Blk wr g 185 #[.slice (some ⟨bk, 0, none⟩) m m, .slice (some ⟨bo, 0, none⟩) m m, .slice none 0 0, .int .i64 ((2 ^ H : Nat) : Int)] ∧ BlkL (Value.int .i64) wr bk 3 (List.replicate m 0) ∧ BlkL Value.bool wr bo 4 (List.replicate m false) ∧ Below w.heap.size w wr)) (fun _ wr => 4000 - (intOf ((wr.cell? ⟨g, 3, none⟩).getD undef)).toNat)
    case atStart => exact ⟨0, by decide, HG.out, HK.out, HO.out, HB.out⟩
    case round =>
      obtain ⟨H, hH, hh⟩ := hrel
      have h3 : wr.cell? ⟨g, 3, none⟩ = some (.int .i64 ((2 ^ H : Nat) : Int)) := by simpa using hh.out.1.cell 3
      have f3 := hh.out.1.frozen 3
      have HH := hh
      clear hh
      by_cases hlt : ((2 ^ H : Nat) : Int) < n
      · have hpn := pow_next (m := m) (H := H) (by omega) hm1
        have HP := hid' (Nat.pow_succ 2 H)
        generalize hs : 2 ^ H = s at *
        have hs2 : (s : Int) ≤ 2000 := by omega
        have hs1 : 1 ≤ s := by rw [← hs]; exact Nat.one_le_two_pow
        have HS := hid' hs
        clear hs
        go_wp2
        go_roundw
        case rel =>
          refine ⟨H + 1, hpn, ?_⟩
          refine ⟨(HH.out.1.set 3 _).cast ?_, HH.out.2.1.far (p := ⟨g, 3, none⟩) hgk.symm _, HH.out.2.2.1.far (p := ⟨g, 3, none⟩) hgo.symm _, bel_set HH.out.2.2.2 b1 _⟩
          have e2 : (s : Int) * 2 = ((2 ^ (H + 1) : Nat) : Int) := by have := HP.out; have h1 : 2 ^ (H + 1) = s * 2 := this; rw [h1]; omega
          simp only [e2]
          simp
        case measure =>
          rw [World.cell?_setCell_same _ _ _ h3, h3]
          simp [intOf]; omega
      · have hp1 : 1 ≤ 2 ^ H := Nat.one_le_two_pow
        generalize hs : 2 ^ H = s at *
        have HPW := hid' (show m ≤ s by omega)
        have HS := hid' hs
        obtain ⟨z, hz⟩ : ∃ z, z = 2 * s := ⟨_, rfl⟩
        have hz2 : 2 * (s : Int) = (z : Int) := by omega
        have hz3 : z ≤ 4000 := by omega
        have hmk := mk1_run (P := Tryz.prog) 99 3 (.int .i64 0) 8 Tryz.underlying99 (by kernel_rfl) rfl z (by omega) (by omega)
        have h2 : wr.cell? ⟨g, 2, none⟩ = some (.slice none 0 0) := by simpa using HH.out.1.cell 2
        have f2 := HH.out.1.frozen 2
        have hgl := HH.out.1.lt
        have h2' := (World.cell?_of_block (w := wr) (w' := wr.alloc (.cells (madeCells #[Value.int .i64 0] z) 3)) (a := ⟨g, 2, none⟩) (Below.heap_alloc _ _ _ hgl)).trans h2
        have HZ := hid' hz
        clear hs hz
        have hG1 := ((HH.out.1.set 2 (.slice (some ⟨wr.heap.size, 0, none⟩) z z)).cast (cs' := #[.slice (some ⟨bk, 0, none⟩) m m, .slice (some ⟨bo, 0, none⟩) m m, .slice (some ⟨wr.heap.size, 0, none⟩) z z, .int .i64 (s : Int)]) (by simp)).alloc (.cells (madeCells #[Value.int .i64 0] z) 3)
        have hK1 := (HH.out.2.1.far (p := ⟨g, 2, none⟩) hgk.symm (.slice (some ⟨wr.heap.size, 0, none⟩) z z)).alloc (.cells (madeCells #[Value.int .i64 0] z) 3)
        have hO1 := (HH.out.2.2.1.far (p := ⟨g, 2, none⟩) hgo.symm (.slice (some ⟨wr.heap.size, 0, none⟩) z z)).alloc (.cells (madeCells #[Value.int .i64 0] z) 3)
        have hW1 := BlkL.made' (f := Value.int .i64) (wr.setCell ⟨g, 2, none⟩ (.slice (some ⟨wr.heap.size, 0, none⟩) z z)) 3 0 z
        rw [show (wr.setCell ⟨g, 2, none⟩ (.slice (some ⟨wr.heap.size, 0, none⟩) z z)).heap.size = wr.heap.size by simp] at hW1
        have hB1 := bel_alloc (bel_set HH.out.2.2.2 (p := ⟨g, 2, none⟩) b1 (.slice (some ⟨wr.heap.size, 0, none⟩) z z)) (.cells (madeCells #[Value.int .i64 0] z) 3)
        have b4 : w.heap.size ≤ wr.heap.size := HH.out.2.2.2.size
        have hkl := HH.out.2.1.lt
        have hol := HH.out.2.2.1.lt
        have HG1 := hid' hG1
        have HK1 := hid' hK1
        have HO1 := hid' hO1
        have HW1 := hid' hW1
        have HB1 := hid' hB1
        clear hG1 hK1 hO1 hW1 hB1
        go_wp2_with fail
        clear h2 h2' h3 f2 f3 hmk HH
        generalize (wr.setCell ⟨g, 2, none⟩ (.slice (some ⟨wr.heap.size, 0, none⟩) z z)).alloc (.cells (madeCells #[Value.int .i64 0] z) 3) = w2 at *
        generalize wr.heap.size = bw at *
        have hgw : g ≠ bw := by omega
        have hkw : bk ≠ bw := by omega
        have how : bo ≠ bw := by omega
        go_loopw [41] (fun v41 wr => ∃ k : Nat, k ≤ z ∧ v41 = .int .i64 k ∧ BlkL (Value.int .i64) wr bw 3 (List.replicate k (-1) ++ List.replicate (z - k) 0) ∧ Mod (fun k => k = bw) w2 wr) (fun v41 _ => z - (intOf v41).toNat)
        case atStart => exact ⟨0, Nat.zero_le _, rfl, by simpa using HW1.out, Mod.refl _ _⟩
        case round =>
          obtain ⟨k, hk, rfl, hb, hM⟩ := hrel
          have HBb := hid' hb
          have HM := hid' hM
          by_cases hlt2 : k < z
          · have c2 : wr.cell? ⟨g, 2, none⟩ = some (.slice (some ⟨bw, 0, none⟩) z z) := by simpa using (HG1.out.mod hM hgw).cell 2
            have hc := hb.cell (fill_get (-1) 0 hlt2)
            have hf := hb.frozen k
            clear hb hM
            go_wp2
            go_roundw
            case rel => exact ⟨k + 1, by omega, by go_num, by rw [← fill_set (-1) 0 hlt2]; exact HBb.out.set k (-1), HM.out.setCell (p := ⟨bw, k, none⟩) (fun _ => rfl) _⟩
            case measure => simp [intOf]; omega
          · have hkz : k = z := by omega
            subst hkz
            rw [Nat.sub_self, List.replicate_zero, List.append_nil] at hb
            have c0 : wr.cell? ⟨g, 0, none⟩ = some (.slice (some ⟨bk, 0, none⟩) m m) := by simpa using (HG1.out.mod hM hgw).cell 0
            have hT : TreeB wr g bk bo bw (List.replicate m 0) (List.replicate m false) (List.replicate k (-1)) s :=
              ⟨by rw [List.length_replicate, ← HZ.out]; exact HG1.out.mod hM hgw, HK1.out.mod hM hkw, HO1.out.mod hM how, hb, hkw, by simp, by rw [List.length_replicate]; exact HZ.out, by omega, by rw [List.length_replicate]; exact HPW.out⟩
            have HT := hid' hT
            have HIv := hid' (Inv.none (keyOf (List.replicate m 0)) (fun j => decide (j < 0)) s k (by intro j; simp))
            have HBw := hid' (bel_mod HB1.out hM (by intro i hi; omega))
            clear hb hM hT HBb HM
            go_wp2
            clear c0
            go_loopw [56] (fun v56 wr => ∃ (i : Nat) (won : List Int), i ≤ m ∧ v56 = .int .i64 i ∧ TreeB wr g bk bo bw (List.replicate m 0) (List.replicate m false) won s ∧ Hid (Inv (keyOf (List.replicate m 0)) (fun j => decide (j < i)) s (wonF won)) ∧ Below w.heap.size w wr) (fun v56 _ => m - (intOf v56).toNat)
            case atStart => exact ⟨0, _, Nat.zero_le _, rfl, HT.out, HIv.out, HBw.out⟩
            case round =>
              obtain ⟨i, won, hi, rfl, hT, hV, hbw⟩ := hrel
              by_cases hlt3 : i < m
              · have hpl := tree_play g bk bo bw H i (List.replicate m 0) (List.replicate m false) won (fun j => decide (j < i + 1)) wr (by rw [HS.out]; exact hT) (by rw [List.length_replicate]; exact hlt3) (by rw [innOf_new]; simp [hlt3])
                  (fun j hj => by rw [List.length_replicate]; have := of_decide_eq_true hj; omega)
                  (Inv.fit (by rw [HS.out]; exact hV.out) (fun j hj => ⟨by show decide (j < i) = decide (j < i + 1); rw [Bool.eq_iff_iff]; simp; omega, rfl⟩))
                have HPL := hid' hpl
                clear hT hpl
                go_wp2_with fail
                refine HPL.out.mono ?_
                rintro e w' ⟨rfl, won', h1, h2, h3⟩
                have HX := hid' (show TreeB w' g bk bo bw (List.replicate m 0) (List.replicate m false) won' s ∧ Inv (keyOf (List.replicate m 0)) (fun j => decide (j < i + 1)) s (wonF won') ∧ Below w.heap.size w w' from by
                  rw [← HS.out]; exact ⟨h1, h2, bel_mod hbw h3 (by intro i hi; omega)⟩)
                clear h1 h2 h3 hbw HPL
                go_wp2
                go_roundw
                case rel => exact ⟨i + 1, won', by omega, by go_num, HX.out.1, HX.out.2.1, HX.out.2.2⟩
                case measure => simp [intOf]; omega
              · have him : i = m := by omega
                subst him
                have HT2 := hid' hT
                clear hT
                go_wp2
                go_ret
                refine ⟨g, rfl, ?_, hbw⟩
                rw [HN.out]
                have l1 := HT2.out.1.lt
                have l2 := HT2.out.2.1.lt
                have l3 := HT2.out.2.2.1.lt
                have l4 := HT2.out.2.2.2.1.lt
                refine ⟨bk, bo, bw, H, won, by rw [HS.out]; exact HT2.out, ⟨⟨b1, l1⟩, ⟨b2, l2⟩, ⟨b3, l3⟩, ⟨b4, l4⟩⟩, ?_⟩
                rw [HS.out, ← node_rep (keyOf (List.replicate i 0)) i]
                exact hV.out
end Go.Proofs.YtockkjhciojgbaaGreatDoor
/- Merge -/
/- What the functions of merge do to their blocks. No condition. -/
namespace Go.Proofs.YtockkjhciojgbaaGreatDoor
set_option maxRecDepth 100000
set_option linter.unusedSimpArgs false
open Go.RowKit
set_option linter.unusedVariables false

def MergeB (w : World) (m : Nat) (a : Int) (s : Bool) (t0 l0 h0 : Nat) (k0 : List Int) (o0 : List Bool) (t1 l1 h1 : Nat) (k1 : List Int) (o1 : List Bool) (bi : Nat) (iss : List Int) : Prop :=
  Blk w m 134 #[.int .i64 a, .bool s, .pointer (some ⟨t0, 0, none⟩), .pointer (some ⟨t1, 0, none⟩), .slice (some ⟨bi, 0, none⟩) iss.length iss.length] ∧ IsTree w l0 h0 t0 k0 o0 ∧ IsTree w l1 h1 t1 k1 o1 ∧ BlkL (Value.int .i64) w bi 3 iss ∧
  ((h0 ≤ l1 ∨ h1 ≤ l0) ∧ (m < l0 ∨ h0 ≤ m) ∧ (m < l1 ∨ h1 ≤ m) ∧ (bi < l0 ∨ h0 ≤ bi) ∧ (bi < l1 ∨ h1 ≤ bi)) ∧ k0.length = iss.length ∧ k1.length = iss.length ∧ I64 a
section
variable {w w' : World} {m : Nat} {a : Int} {s : Bool} {t0 l0 h0 : Nat} {k0 : List Int} {o0 : List Bool} {t1 l1 h1 : Nat} {k1 : List Int} {o1 : List Bool} {bi : Nat} {iss : List Int}
theorem MergeB.mb (h : MergeB w m a s t0 l0 h0 k0 o0 t1 l1 h1 k1 o1 bi iss) : m ≠ bi := Blk.ne h.1 h.2.2.2.1 (by decide)
theorem MergeB.c2 (h : MergeB w m a s t0 l0 h0 k0 o0 t1 l1 h1 k1 o1 bi iss) : w.cell? ⟨m, 2, none⟩ = some (.pointer (some ⟨t0, 0, none⟩)) := by simpa using h.1.cell 2
theorem MergeB.c3 (h : MergeB w m a s t0 l0 h0 k0 o0 t1 l1 h1 k1 o1 bi iss) : w.cell? ⟨m, 3, none⟩ = some (.pointer (some ⟨t1, 0, none⟩)) := by simpa using h.1.cell 3
theorem MergeB.c4 (h : MergeB w m a s t0 l0 h0 k0 o0 t1 l1 h1 k1 o1 bi iss) : w.cell? ⟨m, 4, none⟩ = some (.slice (some ⟨bi, 0, none⟩) iss.length iss.length) := by simpa using h.1.cell 4
theorem MergeB.put0 {k0' : List Int} {o0' : List Bool} (h : MergeB w m a s t0 l0 h0 k0 o0 t1 l1 h1 k1 o1 bi iss) (hm : Mod (fun k => l0 ≤ k ∧ k < h0) w w') (ht : IsTree w' l0 h0 t0 k0' o0') (hl : k0'.length = k0.length) : MergeB w' m a s t0 l0 h0 k0' o0' t1 l1 h1 k1 o1 bi iss := by
  obtain ⟨b1, b2, b3, b4, b5, b6, b7, b8⟩ := h
  exact ⟨b1.mod hm (by omega), ht, b3.mod hm (by intro k h1 h2 h3; omega), b4.mod hm (by omega), b5, hl.trans b6, b7, b8⟩
theorem MergeB.put1 {k1' : List Int} {o1' : List Bool} (h : MergeB w m a s t0 l0 h0 k0 o0 t1 l1 h1 k1 o1 bi iss) (hm : Mod (fun k => l1 ≤ k ∧ k < h1) w w') (ht : IsTree w' l1 h1 t1 k1' o1') (hl : k1'.length = k1.length) : MergeB w' m a s t0 l0 h0 k0 o0 t1 l1 h1 k1' o1' bi iss := by
  obtain ⟨b1, b2, b3, b4, b5, b6, b7, b8⟩ := h
  exact ⟨b1.mod hm (by omega), b2.mod hm (by intro k h1 h2 h3; omega), ht, b4.mod hm (by omega), b5, b6, hl.trans b7, b8⟩
theorem MergeB.putI (h : MergeB w m a s t0 l0 h0 k0 o0 t1 l1 h1 k1 o1 bi iss) (q : Nat) (x : Int) : MergeB (w.setCell ⟨bi, q, none⟩ (.int .i64 x)) m a s t0 l0 h0 k0 o0 t1 l1 h1 k1 o1 bi (iss.set q x) := by
  have hmb := h.mb
  obtain ⟨b1, b2, b3, b4, b5, b6, b7, b8⟩ := h
  have hm : Mod (fun k => k = bi) w (w.setCell ⟨bi, q, none⟩ (.int .i64 x)) := (Mod.refl (fun k => k = bi) w).setCell (p := ⟨bi, q, none⟩) (fun _ => rfl) _
  refine ⟨?_, b2.mod hm (by intro k h1 h2 h3; omega), b3.mod hm (by intro k h1 h2 h3; omega), b4.set q x, b5, ?_, ?_, b8⟩
  · rw [List.length_set]; exact b1.mod hm hmb
  · rw [List.length_set]; exact b6
  · rw [List.length_set]; exact b7
theorem MergeB.mod {S : Nat → Prop} (h : MergeB w m a s t0 l0 h0 k0 o0 t1 l1 h1 k1 o1 bi iss) (hm : Mod S w w') (e1 : ¬ S m) (e2 : ∀ k, l0 ≤ k → k < h0 → ¬ S k) (e3 : ∀ k, l1 ≤ k → k < h1 → ¬ S k) (e4 : ¬ S bi) : MergeB w' m a s t0 l0 h0 k0 o0 t1 l1 h1 k1 o1 bi iss := by
  obtain ⟨b1, b2, b3, b4, b5⟩ := h
  exact ⟨b1.mod hm e1, b2.mod hm e2, b3.mod hm e3, b4.mod hm e4, b5⟩
end
def RngM (l0 h0 l1 h1 bi : Nat) (k : Nat) : Prop := (l0 ≤ k ∧ k < h0) ∨ (l1 ≤ k ∧ k < h1) ∨ k = bi
theorem mergeB_Mark (m : Nat) (a : Int) (s : Bool) (t0 l0 h0 : Nat) (k0 : List Int) (o0 : List Bool) (t1 l1 h1 : Nat) (k1 : List Int) (o1 : List Bool) (bi : Nat) (iss : List Int) (i x : Int) (w : World)
    (h : MergeB w m a s t0 l0 h0 k0 o0 t1 l1 h1 k1 o1 bi iss) :
    Calls Tryz.prog 81 #[.pointer (some ⟨m, 0, none⟩), .int .i64 i, .int .i64 x] w fun e w' => e = .returned (.bool (treeHas iss.length i)) ∧
      MergeB w' m a s t0 l0 h0 (alSet k0 i x) o0 t1 l1 h1 (alSet k1 i x) o1 bi iss ∧ Mod (RngM l0 h0 l1 h1 bi) w w' := by
  have HH := hid' h
  have c2 := h.c2
  have HL0 := hid' h.2.2.2.2.2.1
  have HL1 := hid' h.2.2.2.2.2.2.1
  clear h
  cases hh : treeHas iss.length i
  · have HE := hid' hh
    have HS0 := hid' (alSet_out (l := k0) (by rw [HL0.out]; exact hh) x)
    have HS1 := hid' (alSet_out (l := k1) (by rw [HL1.out]; exact hh) x)
    clear hh
    go_enter Tryz.func81, Tryz.ntmps81
    go_wp2_with fail
    refine (tree_Set l0 h0 t0 k0 o0 i x w HH.out.2.1).mono ?_
    rintro e w1 ⟨rfl, ht, hm⟩
    have HX := hid' (HH.out.put0 hm ht (alSet_len _ _ _))
    have HM := hid' hm
    rw [HL0.out, HE.out]
    clear ht hm
    go_wp2
    go_ret
    refine ⟨rfl, ?_, HM.out.mono (fun k _ h => .inl h)⟩
    have := HX.out
    rw [HS0.out] at this
    rw [HS0.out, HS1.out]; exact this
  · have HE := hid' hh
    clear hh
    go_enter Tryz.func81, Tryz.ntmps81
    go_wp2_with fail
    refine (tree_Set l0 h0 t0 k0 o0 i x w HH.out.2.1).mono ?_
    rintro e w1 ⟨rfl, ht, hm⟩
    have hX := HH.out.put0 hm ht (alSet_len _ _ _)
    have c3 := hX.c3
    have HX := hid' hX
    have HM := hid' hm
    rw [HL0.out, HE.out]
    clear ht hm hX
    go_wp2_with fail
    refine (tree_Set l1 h1 t1 k1 o1 i x w1 HX.out.2.2.1).mono ?_
    rintro e w2 ⟨rfl, ht, hm⟩
    have HX2 := hid' (HX.out.put1 hm ht (alSet_len _ _ _))
    have HM2 := hid' (HM.out.mono (T := RngM l0 h0 l1 h1 bi) (fun k _ h => .inl h) |>.trans (hm.mono (fun k _ h => .inr (.inl h))))
    rw [HL1.out, HE.out]
    clear ht hm
    go_wp2
    go_ret
    exact ⟨rfl, HX2.out, HM2.out⟩
theorem mergeB_Is (m : Nat) (a : Int) (s : Bool) (t0 l0 h0 : Nat) (k0 : List Int) (o0 : List Bool) (t1 l1 h1 : Nat) (k1 : List Int) (o1 : List Bool) (bi : Nat) (iss : List Int) (i x : Int) (w : World)
    (h : MergeB w m a s t0 l0 h0 k0 o0 t1 l1 h1 k1 o1 bi iss) :
    Calls Tryz.prog 82 #[.pointer (some ⟨m, 0, none⟩), .int .i64 i, .int .i64 x] w fun e w' => e = .returned (.bool (treeHas iss.length i)) ∧
      MergeB w' m a s t0 l0 h0 k0 (bSet o0 i (x != 0)) t1 l1 h1 k1 (bSet o1 i (x != 1)) bi (alSet iss i x) ∧ Mod (RngM l0 h0 l1 h1 bi) w w' := by
  have HH := hid' h
  have c4 := h.c4
  have HO0 := hid' (show o0.length = iss.length from h.2.1.len.1.trans h.2.2.2.2.2.1)
  have HO1 := hid' (show o1.length = iss.length from h.2.2.1.len.1.trans h.2.2.2.2.2.2.1)
  have hno : treeHas iss.length i = false → MergeB w m a s t0 l0 h0 k0 (bSet o0 i (x != 0)) t1 l1 h1 k1 (bSet o1 i (x != 1)) bi (alSet iss i x) := fun hh => by
    rw [bSet_out (by rw [HO0.out]; exact hh), bSet_out (by rw [HO1.out]; exact hh), alSet_out hh]; exact HH.out
  have HNO := hid' hno
  have hbne := h.2.2.2.2.1
  have hlt4 := h.2.2.2.1
  clear hno h
  by_cases hneg : i < 0
  · have HE := hid' (show treeHas iss.length i = false from decide_eq_false (by omega))
    clear hlt4 hbne
    go_enter Tryz.func82, Tryz.ntmps82
    go_wp2
    go_ret
    exact ⟨ret_bool HE.out.symm, HNO.out HE.out, Mod.refl _ _⟩
  · obtain ⟨q, rfl⟩ := Int.eq_ofNat_of_zero_le (show 0 ≤ i by omega)
    have hq0 : (0 : Int) ≤ (q : Int) := by omega
    by_cases hq : q < iss.length
    · have HE := hid' (show treeHas iss.length (q : Int) = true from decide_eq_true (by omega))
      have hq1 : (q : Int) < (iss.length : Int) := by omega
      obtain ⟨y, hy⟩ : ∃ y, iss[q]? = some y := ⟨_, List.getElem?_eq_getElem hq⟩
      have hcy := hlt4.cell hy
      have hfy := hlt4.frozen q
      have hX := HH.out.putI q x
      have c2 := hX.c2
      have HX := hid' hX
      have HM := hid' ((Mod.refl (RngM l0 h0 l1 h1 bi) w).setCell (p := ⟨bi, q, none⟩) (fun _ => .inr (.inr rfl)) (.int .i64 x))
      have HS := hid' (show alSet iss (q : Int) x = iss.set q x by unfold alSet; rw [if_pos hq0]; simp)
      clear hX hlt4 hbne hy hneg
      go_enter Tryz.func82, Tryz.ntmps82
      go_wp2_with fail
      refine (tree_Leave l0 h0 t0 k0 o0 (q : Int) (x != 0) _ HX.out.2.1).mono ?_
      rintro e w1 ⟨rfl, ht, hm⟩
      have hX := HX.out.put0 hm ht rfl
      have c3 := hX.c3
      have HX2 := hid' hX
      have HM2 := hid' (HM.out.trans (hm.mono (T := RngM l0 h0 l1 h1 bi) (fun k _ h => .inl h)))
      clear ht hm hX c2 hcy hfy
      go_wp2_with fail
      refine (tree_Leave l1 h1 t1 k1 o1 (q : Int) (x != 1) _ HX2.out.2.2.1).mono ?_
      rintro e w2 ⟨rfl, ht, hm⟩
      have HX3 := hid' (HX2.out.put1 hm ht rfl)
      have HM3 := hid' (HM2.out.trans (hm.mono (T := RngM l0 h0 l1 h1 bi) (fun k _ h => .inr (.inl h))))
      clear ht hm
      go_wp2
      go_ret
      exact ⟨ret_bool HE.out.symm, by rw [HS.out]; exact HX3.out, HM3.out⟩
    · have HE := hid' (show treeHas iss.length (q : Int) = false from decide_eq_false (by omega))
      have hq1 : decide (q < iss.length) = false := decide_eq_false hq
      clear hlt4 hbne
      go_enter Tryz.func82, Tryz.ntmps82
      go_wp2
      go_ret
      exact ⟨ret_bool HE.out.symm, HNO.out HE.out, Mod.refl _ _⟩

/-! ### what a merge is to others -/
def outOf (c : Int) (iss : List Int) : List Bool := iss.map (fun x => x != c)
theorem outOf_set (c : Int) (iss : List Int) (i x : Int) : bSet (outOf c iss) i (x != c) = outOf c (alSet iss i x) := by
  unfold bSet alSet outOf; split
  · rw [List.map_set]
  · rfl
def IsMerge (w : World) (lo hi m : Nat) (marks iss : List Int) (now : Int) : Prop :=
  ∃ a s t0 l0 h0 t1 l1 h1 bi, MergeB w m a s t0 l0 h0 marks (outOf 0 iss) t1 l1 h1 marks (outOf 1 iss) bi iss ∧ clNow a s = now ∧ ((lo ≤ m ∧ m < hi) ∧ (lo ≤ l0 ∧ h0 ≤ hi) ∧ (lo ≤ l1 ∧ h1 ≤ hi) ∧ lo ≤ bi ∧ bi < hi) ∧ (∀ x ∈ marks, I64 x)
def mergeLeast (marks iss : List Int) : Int :=
  if treeLO marks (outOf 0 iss) = true then treeLK marks (outOf 0 iss) else if treeLO marks (outOf 1 iss) = true then treeLK marks (outOf 1 iss) else 9223372036854775807
theorem treeLK_I64 {keys : List Int} (outs : List Bool) (h : ∀ x ∈ keys, I64 x) : I64 (treeLK keys outs) := by
  unfold treeLK keyOf
  split
  · unfold I64; omega
  · rw [List.getD_eq_getElem?_getD]
    cases hx : keys[(treeBest keys outs).toNat]? with
    | none => simp [I64]
    | some x => exact h x (List.mem_of_getElem? hx)
theorem mergeLeast_I64 {marks : List Int} (iss : List Int) (h : ∀ x ∈ marks, I64 x) : I64 (mergeLeast marks iss) := by
  unfold mergeLeast
  split
  · exact treeLK_I64 _ h
  · split
    · exact treeLK_I64 _ h
    · unfold I64; omega
theorem alSet_mem {l : List Int} {i x y : Int} (h : y ∈ alSet l i x) : y ∈ l ∨ y = x := by
  unfold alSet at h
  split at h
  · exact List.mem_or_eq_of_mem_set h
  · exact .inl h
theorem IsMerge.mod {w w' : World} {lo hi m : Nat} {marks iss : List Int} {now : Int} {S : Nat → Prop} (h : IsMerge w lo hi m marks iss now) (hm : Mod S w w') (hs : ∀ k, lo ≤ k → k < hi → ¬ S k) : IsMerge w' lo hi m marks iss now := by
  obtain ⟨a, s, t0, l0, h0, t1, l1, h1, bi, hB, hn, hr, hx⟩ := h
  exact ⟨a, s, t0, l0, h0, t1, l1, h1, bi, hB.mod hm (hs _ hr.1.1 hr.1.2) (fun k e1 e2 => hs k (by omega) (by omega)) (fun k e1 e2 => hs k (by omega) (by omega)) (hs _ hr.2.2.2.1 hr.2.2.2.2), hn, hr, hx⟩
theorem IsMerge.len {w : World} {lo hi m : Nat} {marks iss : List Int} {now : Int} (h : IsMerge w lo hi m marks iss now) : marks.length = iss.length := by
  obtain ⟨a, s, t0, l0, h0, t1, l1, h1, bi, hB, hn, hr, hx⟩ := h; exact hB.2.2.2.2.2.1
theorem merge_Mark (lo hi m : Nat) (marks iss : List Int) (now i x : Int) (w : World) (h : IsMerge w lo hi m marks iss now) (hx : I64 x) :
    Calls Tryz.prog 81 #[.pointer (some ⟨m, 0, none⟩), .int .i64 i, .int .i64 x] w fun e w' => e = .returned (.bool (treeHas iss.length i)) ∧ IsMerge w' lo hi m (alSet marks i x) iss now ∧ Mod (fun k => lo ≤ k ∧ k < hi) w w' := by
  obtain ⟨a, s, t0, l0, h0, t1, l1, h1, bi, hB, hn, hr, hxs⟩ := h
  refine (mergeB_Mark m a s t0 l0 h0 marks _ t1 l1 h1 marks _ bi iss i x w hB).mono ?_
  rintro e w' ⟨he, hb, hm⟩
  refine ⟨he, ⟨a, s, t0, l0, h0, t1, l1, h1, bi, hb, hn, hr, fun y hy => ?_⟩, hm.mono (fun k _ hk => ?_)⟩
  · rcases alSet_mem hy with hy | rfl; exact hxs y hy; exact hx
  · unfold RngM at hk; omega
theorem merge_Is (lo hi m : Nat) (marks iss : List Int) (now i x : Int) (w : World) (h : IsMerge w lo hi m marks iss now) :
    Calls Tryz.prog 82 #[.pointer (some ⟨m, 0, none⟩), .int .i64 i, .int .i64 x] w fun e w' => e = .returned (.bool (treeHas iss.length i)) ∧ IsMerge w' lo hi m marks (alSet iss i x) now ∧ Mod (fun k => lo ≤ k ∧ k < hi) w w' := by
  obtain ⟨a, s, t0, l0, h0, t1, l1, h1, bi, hB, hn, hr, hxs⟩ := h
  refine (mergeB_Is m a s t0 l0 h0 marks _ t1 l1 h1 marks _ bi iss i x w hB).mono ?_
  rintro e w' ⟨he, hb, hm⟩
  rw [outOf_set, outOf_set] at hb
  refine ⟨he, ⟨a, s, t0, l0, h0, t1, l1, h1, bi, hb, hn, hr, hxs⟩, hm.mono (fun k _ hk => ?_)⟩
  unfold RngM at hk; omega
theorem merge_At (lo hi m : Nat) (marks iss : List Int) (now i : Int) (w : World) (h : IsMerge w lo hi m marks iss now) :
    Calls Tryz.prog 56 #[.pointer (some ⟨m, 0, none⟩), .int .i64 i] w fun e w' => e = .returned (.int .i64 (treeKey marks i)) ∧ w = w' := by
  obtain ⟨a, s, t0, l0, h0, t1, l1, h1, bi, hB, hn, hr, hxs⟩ := h
  have c2 := hB.c2
  have HB := hid' hB
  clear hB
  go_enter Tryz.func56, Tryz.ntmps56
  go_wp2_with fail
  refine (tree_Key l0 h0 t0 marks (outOf 0 iss) i _ HB.out.2.1).mono ?_
  rintro e w' ⟨rfl, rfl⟩
  go_wp2
  go_ret
  exact ⟨rfl, rfl⟩
theorem merge_Now (lo hi m : Nat) (marks iss : List Int) (now : Int) (w : World) (h : IsMerge w lo hi m marks iss now) :
    Calls Tryz.prog 57 #[.pointer (some ⟨m, 0, none⟩)] w fun e w' => e = .returned (.int .i64 now) ∧ w = w' := by
  obtain ⟨a, s, t0, l0, h0, t1, l1, h1, bi, hB, rfl, hr, hxs⟩ := h
  have HB := hid' hB
  clear hB
  go_enter Tryz.func57, Tryz.ntmps57
  go_wp2_with fail
  refine (clamp_NowI m 0 _ _ a s _ HB.out.1 rfl rfl).mono ?_
  rintro e w' ⟨rfl, rfl⟩
  go_wp2
  go_ret
  exact ⟨rfl, rfl⟩
set_option maxRecDepth 100000 in
theorem merge_Least (lo hi m : Nat) (marks iss : List Int) (now : Int) (w : World) (h : IsMerge w lo hi m marks iss now) :
    Calls Tryz.prog 133 #[.pointer (some ⟨m, 0, none⟩)] w fun e w' => e = .returned (.int .i64 (mergeLeast marks iss)) ∧ w = w' := by
  obtain ⟨a, s, t0, l0, h0, t1, l1, h1, bi, hB, hn, hr, hxs⟩ := h
  have c2 := hB.c2
  have c3 := hB.c3
  have HT0 := hid' (tree_Least l0 h0 t0 marks (outOf 0 iss) w hB.2.1)
  have HT1 := hid' (tree_Least l1 h1 t1 marks (outOf 1 iss) w hB.2.2.1)
  have HE := hid' (show mergeLeast marks iss = if treeLO marks (outOf 0 iss) = true then treeLK marks (outOf 0 iss) else if treeLO marks (outOf 1 iss) = true then treeLK marks (outOf 1 iss) else 9223372036854775807 from rfl)
  clear hB hn
  generalize treeLO marks (outOf 0 iss) = b0 at *
  generalize treeLO marks (outOf 1 iss) = b1 at *
  generalize treeLK marks (outOf 0 iss) = x0 at *
  generalize treeLK marks (outOf 1 iss) = x1 at *
  have hi0 : ∀ W : World, (Instr.index 130 (.agg #[.pointer (some ⟨t0, 0, none⟩), .pointer (some ⟨t1, 0, none⟩)]) (.int .i64 0)).run Tryz.prog W = .ok (.pointer (some ⟨t0, 0, none⟩)) W := fun W => by kernel_rfl
  have hi1 : ∀ W : World, (Instr.index 130 (.agg #[.pointer (some ⟨t0, 0, none⟩), .pointer (some ⟨t1, 0, none⟩)]) (.int .i64 1)).run Tryz.prog W = .ok (.pointer (some ⟨t1, 0, none⟩)) W := fun W => by kernel_rfl
  go_enter Tryz.func133, Tryz.ntmps133
  go_wp2
  go_loop [12] (fun v12 => ∃ k : Nat, k ≤ 2 ∧ v12 = .int .i64 k ∧ Hid (1 ≤ k → b0 = false) ∧ Hid (2 ≤ k → b1 = false)) (fun v12 => 2 - (intOf v12).toNat)
  case atStart => exact ⟨0, by omega, rfl, fun h => by omega, fun h => by omega⟩
  case round =>
    obtain ⟨k, hk, rfl, HF0, HF1⟩ := hrel
    obtain rfl | rfl | rfl : k = 0 ∨ k = 1 ∨ k = 2 := by omega
    · cases b0
      · go_wp2_with fail
        refine HT0.out.mono ?_
        rintro e w' ⟨rfl, rfl⟩
        go_wp2
        go_round
        case rel => exact ⟨1, by omega, rfl, (fun _ => by trivial), (fun h => by omega)⟩
        case measure => simp [intOf]
      · go_wp2_with fail
        refine HT0.out.mono ?_
        rintro e w' ⟨rfl, rfl⟩
        go_wp2
        go_ret
        exact ⟨ret_int (by rw [HE.out]; rfl), rfl⟩
    · have hb := HF0.out (by omega)
      subst hb
      cases b1
      · go_wp2_with fail
        refine HT1.out.mono ?_
        rintro e w' ⟨rfl, rfl⟩
        go_wp2
        go_round
        case rel => exact ⟨2, by omega, rfl, (fun _ => by trivial), (fun h => by trivial)⟩
        case measure => simp [intOf]
      · go_wp2_with fail
        refine HT1.out.mono ?_
        rintro e w' ⟨rfl, rfl⟩
        go_wp2
        go_ret
        exact ⟨ret_int (by rw [HE.out]; rfl), rfl⟩
    · have hb := HF0.out (by omega)
      have hb1 := HF1.out (by omega)
      subst hb hb1
      go_wp2
      go_ret
      exact ⟨ret_int (by rw [HE.out]; rfl), rfl⟩
def advAt (now least : Int) : Int := if now < least then least else 0
theorem merge_Advance (lo hi m : Nat) (marks iss : List Int) (now : Int) (w : World) (h : IsMerge w lo hi m marks iss now) :
    Calls Tryz.prog 94 #[.pointer (some ⟨m, 0, none⟩)] w fun e w' => e = .returned (.tuple #[.int .i64 (advAt now (mergeLeast marks iss)), .bool (decide (now < mergeLeast marks iss))]) ∧
      IsMerge w' lo hi m marks iss (max now (mergeLeast marks iss)) ∧ Mod (fun k => lo ≤ k ∧ k < hi) w w' := by
  have HI := hid' h
  obtain ⟨a, s, t0, l0, h0, t1, l1, h1, bi, hB, hn, hr, hxs⟩ := h
  have HL := hid' fun (wx : World) (hw : Dr w wx) => merge_Least lo hi m marks iss now wx (HI.out.mod (hw.mod (S := fun _ => False)) (fun _ _ _ h => h))
  have HLI := hid' (mergeLeast_I64 iss hxs)
  have HB := hid' hB
  have HN := hid' hn
  have HNow := hid' (clNow_raise a s (mergeLeast marks iss))
  rw [HN.out] at HNow
  have HAt := hid' (show advAt now (mergeLeast marks iss) = if now < mergeLeast marks iss then mergeLeast marks iss else 0 from rfl)
  clear hB hn
  generalize mergeLeast marks iss = least at *
  have hR := hid' (clamp_RaiseI m 0 134 _ a s least w.drew (show Blk w.drew m _ _ from HB.out.1) rfl rfl)
  rw [HN.out] at hR
  go_enter Tryz.func94, Tryz.ntmps94
  go_wp2
  go_region_with (first
    | (go_at_call 133; refine (HL.out _ (by repeat (first | exact Dr.refl _ | apply Dr.step | apply Dr.stepd))).mono ?_; rintro e w' ⟨rfl, rfl⟩)
    | (go_at_call 132; refine (hR.out).mono ?_; rintro e w' ⟨rfl, hb, hm⟩))
  all_goals
    have HI2 := hid' (show IsMerge w' lo hi m marks iss (max now least) from ⟨clA a s least, clS a s least, t0, l0, h0, t1, l1, h1, bi, by
      have hd : Mod (fun k => k = m) w w' := (Mod.refl _ w).drew.trans hm
      refine ⟨by simpa using hb, HB.out.2.1.mod hd (by intro k e1 e2 e3; have := HB.out.2.2.2.2.1; omega), HB.out.2.2.1.mod hd (by intro k e1 e2 e3; have := HB.out.2.2.2.2.1; omega), HB.out.2.2.2.1.mod hd (fun e => HB.out.mb e.symm), HB.out.2.2.2.2.1, HB.out.2.2.2.2.2.1, HB.out.2.2.2.2.2.2.1, I64.clA HB.out.2.2.2.2.2.2.2 HLI.out⟩, HNow.out, hr, hxs⟩)
    have HM := hid' (show Mod (fun k => lo ≤ k ∧ k < hi) w w' from (Mod.refl _ w).drew.trans (hm.mono (by rintro k _ rfl; exact hr.1)))
    have HW := hid' (merge_Now lo hi m marks iss (max now least) w' HI2.out)
    clear hb hm
    by_cases hlt : now < least
    · have hd : decide (now < least) = true := decide_eq_true hlt
      have HA := hid' (show advAt now least = least by rw [HAt.out, if_pos hlt])
      have HD := hid' hd
      rw [hd]
      have HMx := hid' (show max now least = least by omega)
      clear hlt hd
      go_wp2_with (go_at_call 57; refine (HW.out).mono ?_; rintro e w' ⟨rfl, rfl⟩)
      go_ret2
      exact ⟨by rw [HMx.out, HA.out, HD.out]; rfl, HI2.out, HM.out⟩
    · have hd : decide (now < least) = false := decide_eq_false hlt
      have HA := hid' (show advAt now least = 0 by rw [HAt.out, if_neg hlt])
      have HD := hid' hd
      rw [hd]
      clear hlt hd
      go_wp2
      go_ret2
      exact ⟨by rw [HA.out, HD.out]; rfl, HI2.out, HM.out⟩
end Go.Proofs.YtockkjhciojgbaaGreatDoor
/- MergeNew -/
/- A merge anew. No condition. -/
namespace Go.Proofs.YtockkjhciojgbaaGreatDoor
set_option maxRecDepth 100000
set_option linter.unusedSimpArgs false
open Go.RowKit
set_option linter.unusedVariables false

theorem IsTree.bel {w w' : World} {lo hi g : Nat} {keys : List Int} {outs : List Bool} (h : IsTree w lo hi g keys outs) (m : Below w.heap.size w w') : IsTree w' lo hi g keys outs := h.mod (Mod.of_below (S := fun _ => False) m) (fun _ _ _ h => h)
theorem IsTree.alloc {w : World} {lo hi g : Nat} {keys : List Int} {outs : List Bool} (h : IsTree w lo hi g keys outs) (o : Obj) : IsTree (w.alloc o) lo hi g keys outs := h.bel (bel_alloc (bel_refl _) _)
theorem IsTree.drew {w : World} {lo hi g : Nat} {keys : List Int} {outs : List Bool} (h : IsTree w lo hi g keys outs) : IsTree w.drew lo hi g keys outs := h
theorem BlkL.drew {α : Type} {f : α → Value} {w : World} {b : Nat} {T : TypeId} {xs : List α} (h : BlkL f w b T xs) : BlkL f w.drew b T xs := h
def NewM (w wx : World) (g m : Nat) : Prop :=
  ∃ t0 l0 h0 t1 l1 h1 bi, MergeB wx g 0 false t0 l0 h0 (List.replicate m 0) (List.replicate m false) t1 l1 h1 (List.replicate m 0) (List.replicate m false) bi (List.replicate m 0) ∧ Below w.heap.size w wx ∧ (w.heap.size ≤ g ∧ w.heap.size ≤ l0 ∧ w.heap.size ≤ l1 ∧ w.heap.size ≤ bi) ∧ h0 ≤ wx.heap.size ∧ h1 ≤ wx.heap.size
theorem NewM.fin {w W : World} {m t0 l0 h0 t1 l1 h1 bi : Nat} (ht0 : IsTree W l0 h0 t0 (List.replicate m 0) (List.replicate m false)) (ht1 : IsTree W l1 h1 t1 (List.replicate m 0) (List.replicate m false)) (hi : BlkL (Value.int .i64) W bi 3 (List.replicate m 0))
    (hB : Below w.heap.size w W) (d : (h0 ≤ l1 ∨ h1 ≤ l0) ∧ (bi < l0 ∨ h0 ≤ bi) ∧ (bi < l1 ∨ h1 ≤ bi)) (b : w.heap.size ≤ l0 ∧ w.heap.size ≤ l1 ∧ w.heap.size ≤ bi ∧ h0 ≤ W.heap.size ∧ h1 ≤ W.heap.size) {gg : Nat} (hgg : W.heap.size = gg) :
    NewM w (W.alloc (.cells #[.int .i64 0, .bool false, .pointer (some ⟨t0, 0, none⟩), .pointer (some ⟨t1, 0, none⟩), .slice (some ⟨bi, 0, none⟩) m m] 134)) gg m := by
  subst hgg
  have hs := hB.size
  refine ⟨t0, l0, h0, t1, l1, h1, bi, ⟨?_, ht0.alloc _, ht1.alloc _, hi.alloc _, by omega, rfl, rfl, by unfold I64; omega⟩, bel_alloc hB _, ⟨hs, b.1, b.2.1, b.2.2.1⟩, by simp; omega, by simp; omega⟩
  rw [List.length_replicate]
  exact Blk.new_ W _ _
theorem NewM.drew {w W : World} {g m : Nat} (h : NewM w W g m) : NewM w W.drew g m := by
  obtain ⟨t0, l0, h0, t1, l1, h1, bi, hb, hB, h⟩ := h
  exact ⟨t0, l0, h0, t1, l1, h1, bi, hb, bel_drew hB, h⟩

set_option maxRecDepth 100000 in
set_option maxHeartbeats 4000000 in
theorem merge_New (n : Int) (w : World) (hn : n ≤ 1000) :
    Calls Tryz.prog 42 #[.int .i64 n] w fun e w' => ∃ g, e = .returned (.pointer (some ⟨g, 0, none⟩)) ∧ IsMerge w' w.heap.size w'.heap.size g (List.replicate n.toNat NEV) (List.replicate n.toNat 0) NEV ∧ Below w.heap.size w w' := by
  obtain ⟨m, hm⟩ : ∃ m : Nat, max n 0 = (m : Int) := ⟨n.toNat, by omega⟩
  have hN : n.toNat = m := by omega
  have HN := hid' hN
  have hm1 : m ≤ 1000 := by omega
  have hmk := mk1_run (P := Tryz.prog) 99 3 (.int .i64 0) 8 Tryz.underlying99 (by kernel_rfl) rfl m (by omega) (by omega)
  have HT := hid' (fun W => tree_New n W hn)
  rw [hN] at HT
  clear hN
  go_enter Tryz.func42, Tryz.ntmps42
  go_upto_region 1 with (fail)
  go_cut [3] from 5 (fun v3 wx => ∃ g, v3 = .pointer (some ⟨g, 0, none⟩) ∧ NewM w wx g m)
  case first =>
    go_region_with (go_at_call 80; refine (HT.out _).mono ?_; rintro e w' ⟨g, rfl, ht, hb⟩)
    all_goals
      clear HN hmk
      rename_i w5 g5 ht5 hb5
      go_wp2_with fail
      have s1 := hb5.size
      have s2 := hb.size
      simp at s1 s2
      go_meet
      refine ⟨_, rfl, ?_⟩
      repeat refine NewM.drew ?_
      first
        | refine NewM.fin (m := m) ((ht5.bel hb).alloc _) (ht.alloc _) (BlkL.made' w' _ _ _) (bel_alloc (bel_then (bel_then (bel_drew (bel_refl w)) hb5) hb) _) ?_ ?_ ?_
        | refine NewM.fin (m := m) (ht.alloc _) ((ht5.bel hb).alloc _) (BlkL.made' w' _ _ _) (bel_alloc (bel_then (bel_then (bel_drew (bel_refl w)) hb5) hb) _) ?_ ?_ ?_
        | refine NewM.fin (m := m) ((ht5.alloc _).bel hb) ht ((BlkL.made' w5 _ _ _).below hb) (bel_then (bel_alloc (bel_then (bel_drew (bel_refl w)) hb5) _) hb) ?_ ?_ ?_
        | refine NewM.fin (m := m) ht ((ht5.alloc _).bel hb) ((BlkL.made' w5 _ _ _).below hb) (bel_then (bel_alloc (bel_then (bel_drew (bel_refl w)) hb5) _) hb) ?_ ?_ ?_
        | refine NewM.fin (m := m) (ht5.bel hb) ht (((BlkL.made' w.drew _ _ _).below hb5).below hb) (bel_then (bel_then (bel_alloc (bel_drew (bel_refl w)) _) hb5) hb) ?_ ?_ ?_
        | refine NewM.fin (m := m) ht (ht5.bel hb) (((BlkL.made' w.drew _ _ _).below hb5).below hb) (bel_then (bel_then (bel_alloc (bel_drew (bel_refl w)) _) hb5) hb) ?_ ?_ ?_
      all_goals (simp; try omega)
  case rest =>
    obtain ⟨g, rfl, hC⟩ := hcut
    obtain ⟨t0, l0, h0, t1, l1, h1, bi, hM, hB, hlo, hh0, hh1⟩ := hC
    have hMr := hlo
    have HM := hid' hM
    have HB := hid' hB
    have HHi := hid' (show h0 ≤ wc.heap.size ∧ h1 ≤ wc.heap.size from ⟨hh0, hh1⟩)
    have HLo := hid' hlo
    have c4 := hM.c4
    rw [List.length_replicate] at c4
    clear hM hB hlo hh0 hh1 hmk hMr HT
    go_wp2
    clear c4
    go_loopw [20] (fun v20 wr => ∃ k : Nat, k ≤ m ∧ v20 = .int .i64 k ∧ Hid (MergeB wr g 0 false t0 l0 h0 (List.replicate k NEV ++ List.replicate (m - k) 0) (List.replicate m false) t1 l1 h1 (List.replicate k NEV ++ List.replicate (m - k) 0) (List.replicate k true ++ List.replicate (m - k) false) bi (List.replicate m 0)) ∧ Below w.heap.size w wr ∧ Hid (wc.heap.size ≤ wr.heap.size)) (fun v20 _ => m - (intOf v20).toNat)
    case atStart => exact ⟨0, Nat.zero_le _, rfl, by unfold Hid; simpa using HM.out, HB.out, Nat.le_refl _⟩
    case round =>
      obtain ⟨k, hk, rfl, HR, hbw, HSz⟩ := hrel
      by_cases hlt : k < m
      · go_wp2_with fail
        refine (mergeB_Mark g 0 false t0 l0 h0 _ _ t1 l1 h1 _ _ bi _ (k : Int) NEV wr HR.out).mono ?_
        rintro e w5 ⟨rfl, hm5, hd5⟩
        have hbw5 := bel_mod hbw hd5 (by intro i hi hr; have := HLo.out; unfold RngM at hr; omega)
        have HR5 := hid' hm5
        have HSz5 := hid' (Nat.le_trans HSz.out hd5.size)
        clear hm5 hd5
        go_wp2_with fail
        refine (mergeB_Is g 0 false t0 l0 h0 _ _ t1 l1 h1 _ _ bi _ (k : Int) 0 w5 HR5.out).mono ?_
        rintro e w6 ⟨rfl, hm6, hd6⟩
        have hbw6 := bel_mod hbw5 hd6 (by intro i hi hr; have := HLo.out; unfold RngM at hr; omega)
        have HR6 := hid' hm6
        have HSz6 := hid' (Nat.le_trans HSz5.out hd6.size)
        have HA1 := hid' (show alSet (List.replicate k NEV ++ List.replicate (m - k) 0) (k : Int) NEV = List.replicate (k + 1) NEV ++ List.replicate (m - (k + 1)) 0 by unfold alSet; rw [if_pos (by omega), Int.toNat_natCast, fill_set NEV 0 hlt])
        have HA2 := hid' (show bSet (List.replicate m false) (k : Int) ((0 : Int) != 0) = List.replicate m false by unfold bSet; rw [if_pos (by omega), Int.toNat_natCast]; apply List.ext_getElem? ; intro i; rw [List.getElem?_set]; split <;> simp_all)
        have HA3 := hid' (show bSet (List.replicate k true ++ List.replicate (m - k) false) (k : Int) ((0 : Int) != 1) = List.replicate (k + 1) true ++ List.replicate (m - (k + 1)) false by unfold bSet; rw [if_pos (by omega), Int.toNat_natCast]; exact fill_set true false hlt)
        have HA4 := hid' (show alSet (List.replicate m (0 : Int)) (k : Int) 0 = List.replicate m 0 by unfold alSet; rw [if_pos (by omega), Int.toNat_natCast]; apply List.ext_getElem? ; intro i; rw [List.getElem?_set]; split <;> simp_all)
        clear hm6 hd6
        go_wp2
        go_roundw
        case rel =>
          refine ⟨k + 1, by omega, by go_num, ?_, hbw6, HSz6.out⟩
          have := HR6.out
          rw [HA1.out, HA2.out, HA3.out, HA4.out] at this
          exact this
        case measure => simp [intOf]; omega
      · have hkm : k = m := by omega
        subst hkm
        go_wp2
        go_ret
        refine ⟨g, rfl, ?_, hbw⟩
        rw [HN.out]
        have hR := HR.out
        rw [Nat.sub_self, List.replicate_zero, List.append_nil, List.replicate_zero, List.append_nil] at hR
        have g1 := HLo.out
        have g2 := HHi.out
        have g3 := HSz.out
        have g4 := hR.1.lt
        have g5 := hR.2.2.2.1.lt
        refine ⟨0, false, t0, l0, h0, t1, l1, h1, bi, ?_, rfl, ⟨⟨g1.1, g4⟩, ⟨g1.2.1, by omega⟩, ⟨g1.2.2.1, by omega⟩, g1.2.2.2, g5⟩, fun x hx => by rw [List.eq_of_mem_replicate hx]; exact I64.nev⟩
        rw [show outOf 0 (List.replicate k 0) = List.replicate k false by unfold outOf; rw [List.map_replicate]; rfl, show outOf 1 (List.replicate k 0) = List.replicate k true by unfold outOf; rw [List.map_replicate]; rfl]
        exact hR
end Go.Proofs.YtockkjhciojgbaaGreatDoor
