
/- The last ones, in order, walked. No condition. -/
import Derived.Test.YtcgonoepndlofaaLawHistC
import Derived.Test.YtcgonoepndlofaaRingIntC
import Derived.Test.YtcgonoepndlofaaShelf
import Derived.Lib.OwnBridge
namespace Go.Proofs.Ytcgonoepndlofaa
set_option maxRecDepth 100000
set_option linter.unusedSimpArgs false
open Go.RowKit
set_option linter.unusedVariables false

theorem merge_sorted (l : List Int) : Sorted (l.mergeSort fun x y => decide (x ≤ y)) := by
  have h := List.pairwise_mergeSort (le := fun a b : Int => decide (a ≤ b)) (fun a b c h1 h2 => by simp at *; omega) (fun a b => by simp; omega) l
  intro i j a b hij ha hb
  rcases Nat.lt_or_ge i j with hlt | hge
  · rw [List.pairwise_iff_getElem] at h
    obtain ⟨hi, ea⟩ := List.getElem?_eq_some_iff.1 ha
    obtain ⟨hj, eb⟩ := List.getElem?_eq_some_iff.1 hb
    have := h i j hi hj hlt
    rw [ea, eb] at this
    simpa using this
  · have : i = j := by omega
    subst this; rw [ha] at hb; injection hb with hb; omega
theorem slices_SortO (base : Nat) (v : Value) (l : List Int) (w : World) (h : w.ownsRow base 3 1 v l.length (l.map (.int .i64))) (hn : l.length ≤ 100000) :
    Calls Try.prog 39 #[v] w fun e w' => e = .returned (.tuple #[]) ∧ ∃ s : List Int, s.Perm l ∧ Sorted s ∧ w'.ownsRow base 3 1 v s.length (s.map (.int .i64)) ∧ Mod (fun k => v.ownBlock = some k) w w' := by
  by_cases hv : v = .slice none 0 0
  · subst hv
    have hl : l.length = 0 := by rcases h.2 with ⟨_, h⟩ | ⟨g, _, _, e, _⟩; exact h; cases e
    have hl' : l = [] := List.eq_nil_of_length_eq_zero hl
    subst hl'
    refine (Go.Proofs.Try.slices_Sort_int_none none 0 w).mono ?_
    rintro e w' ⟨rfl, rfl⟩
    exact ⟨rfl, [], List.Perm.refl _, (fun i j a b _ h => by simp at h), h, Mod.refl _ _⟩
  · obtain ⟨g, cap, rfl, hb, hlt, _, hcm, _, hH⟩ := Lib.holds_of_ownsRow (enc := Value.int .i64) h hv
    refine (Go.Proofs.Try.slices_Sort_int g 0 cap l w hH hlt (by omega)).mono ?_
    rintro e w' ⟨rfl, n, os, rfl⟩
    have hp := List.mergeSort_perm l (fun x y => decide (x ≤ y))
    have h1 := Lib.ownsRow_putRow (q := n) (ys := l.mergeSort fun x y => decide (x ≤ y)) h hp.length_eq (Nat.le_refl _)
    rw [List.take_of_length_le (by rw [hp.length_eq]; exact Nat.le_refl _)] at h1
    have hgr : ∀ W : World, Below W.heap.size W (Sort.grow W os) := fun W => ⟨rfl, rfl, rfl, by simp [Sort.grow], fun k hk => by simp only [Sort.grow]; exact Array.getElem?_append_left hk⟩
    refine ⟨rfl, _, hp, merge_sorted l, ?_, ?_⟩
    · rw [hp.length_eq]; exact own_below h1 (hgr _)
    · have hm : Mod (fun k => (Value.slice (some ⟨g, 0, none⟩) l.length cap).ownBlock = some k) w (Sort.putRow (Value.int .i64) (Sort.ahead w n) g 0 (l.mergeSort fun x y => decide (x ≤ y)).toArray) :=
        ⟨rfl, rfl, rfl, by simp [Sort.putRow, Sort.mapBlock, Sort.ahead], fun k hk hne => by
          have : g ≠ k := fun e => hne (by simp [Value.ownBlock, e])
          simp [Sort.putRow, Sort.mapBlock, Sort.ahead, Array.getElem?_modify, this]⟩
      exact hm.trans (Mod.of_below (hgr _))
/-- A Hist and a ring. -/
def SW (w0 w : World) (g : Nat) (v : Value) (bs : List (Int × Nat)) (rg rb n : Nat) (q : List Int) : Prop :=
  Below w0.heap.size w0 w ∧ (w0.heap.size ≤ g ∧ w0.heap.size ≤ rg ∧ w0.heap.size ≤ rb) ∧ (∃ cs, HistI w g 0 26 cs w0.heap.size v bs) ∧ RingInt w rg rb n q ∧ n ≤ 5000
section
variable {w0 w w' : World} {g : Nat} {v : Value} {bs : List (Int × Nat)} {rg rb n : Nat} {q : List Int}
theorem RingInt.types {w : World} {g b n : Nat} {q : List Int} (h : RingInt w g b n q) : (∃ cs, Blk w g 107 cs) ∧ ∃ cs, Blk w b 3 cs := by
  obtain ⟨first, cs, h1, h2, _⟩ := h
  exact ⟨⟨_, h1⟩, ⟨_, h2⟩⟩
theorem SW.far (h : SW w0 w g v bs rg rb n q) : rg ≠ g ∧ rb ≠ g ∧ v.ownBlock ≠ some rg ∧ v.ownBlock ≠ some rb := by
  obtain ⟨h1, h2, ⟨cs, h3⟩, h4, h5⟩ := h
  obtain ⟨⟨c1, b1⟩, ⟨c2, b2⟩⟩ := h4.types
  exact ⟨Blk.ne b1 h3.1 (by decide), Blk.ne b2 h3.1 (by decide), own_ne' h3.2.2.2.1 b1 (by decide), own_ne' h3.2.2.2.1 b2 (by decide)⟩
theorem SW.step {v' : Value} {bs' : List (Int × Nat)} {cs : Array Value} (h : SW w0 w g v bs rg rb n q) (hi : HistI w' g 0 26 cs w0.heap.size v' bs') (hm : Mod (fun k => k = g ∨ v.ownBlock = some k) w w') : SW w0 w' g v' bs' rg rb n q := by
  have hf := h.far
  obtain ⟨h1, h2, ⟨cs0, h3⟩, h4, h5⟩ := h
  refine ⟨bel_mod h1 hm (fun i hi hs => ?_), h2, ⟨cs, hi⟩, h4.mod hm ?_ ?_, h5⟩
  · rcases hs with e | e
    · omega
    · have := own_base' h3.2.2.2.1 i e; omega
  · rintro (e | e); exact hf.1 e; exact hf.2.2.1 e
  · rintro (e | e); exact hf.2.1 e; exact hf.2.2.2 e
theorem SW.below (h : SW w0 w g v bs rg rb n q) (hb : Below w.heap.size w w') : SW w0 w' g v bs rg rb n q := by
  obtain ⟨h1, h2, ⟨cs0, h3⟩, h4, h5⟩ := h
  exact ⟨bel_then h1 hb, h2, ⟨cs0, h3.below hb⟩, h4.below hb, h5⟩
theorem SW.add (h : SW w0 w g v bs rg rb n q) (x : Int) (hb : totB bs < 10000) :
    Calls Try.prog 13 #[.pointer (some ⟨g, 0, none⟩), .int .i64 x] w fun e w' => e = .returned (.tuple #[]) ∧ ∃ v', SW w0 w' g v' (addB x bs) rg rb n q := by
  have hh := h
  obtain ⟨h1, h2, ⟨cs0, h3⟩, h4⟩ := h
  refine (h3.add x hb).mono ?_
  rintro e w' ⟨rfl, v', hi, hm, -⟩
  exact ⟨rfl, v', hh.step hi hm⟩
theorem SW.remove (h : SW w0 w g v bs rg rb n q) (x : Int) :
    Calls Try.prog 16 #[.pointer (some ⟨g, 0, none⟩), .int .i64 x] w fun e w' => e = .returned (.bool (isB x bs)) ∧ ∃ v', SW w0 w' g v' (remB x bs) rg rb n q := by
  have hh := h
  obtain ⟨h1, h2, ⟨cs0, h3⟩, h4⟩ := h
  refine (h3.remove x).mono ?_
  rintro e w' ⟨rfl, v', hi, hm, -⟩
  exact ⟨rfl, v', hh.step hi hm⟩
theorem SW.rank (h : SW w0 w g v bs rg rb n q) (k : Int) (hk : I64 k) :
    Calls Try.prog 14 #[.pointer (some ⟨g, 0, none⟩), .int .i64 k] w fun e w' => e = .returned (.tuple #[.int .i64 (rkR bs k).1, .bool (rkR bs k).2]) ∧ Below w.heap.size w w' := by
  obtain ⟨h1, h2, ⟨cs0, h3⟩, h4⟩ := h
  exact h3.rank k hk
theorem SW.percent (h : SW w0 w g v bs rg rb n q) (p : Int) (hp0 : 0 ≤ p) (hp1 : p ≤ 100) :
    Calls Try.prog 19 #[.pointer (some ⟨g, 0, none⟩), .int .i64 p] w fun e w' => e = .returned (.tuple #[.int .i64 (pcR bs p (totB bs : Nat)).1, .bool (pcR bs p (totB bs : Nat)).2]) ∧ Below w.heap.size w w' := by
  obtain ⟨h1, h2, ⟨cs0, h3⟩, h4⟩ := h
  exact h3.percent p hp0 hp1
theorem SW.len (h : SW w0 w g v bs rg rb n q) : Calls Try.prog 17 #[.pointer (some ⟨g, 0, none⟩)] w fun e w' => e = .returned (.int .i64 (totB bs : Nat)) ∧ w = w' := by
  obtain ⟨h1, h2, ⟨cs0, h3⟩, h4⟩ := h
  exact h3.len
theorem SW.push (h : SW w0 w g v bs rg rb n q) (x : Int) :
    Calls Try.prog 37 #[.pointer (some ⟨rg, 0, none⟩), .int .i64 x] w fun e w' =>
      e = .returned (.tuple #[.int .i64 (if q.length < n then (0 : Int) else q.headD (0 : Int)), .bool (decide (n ≤ q.length))]) ∧ SW w0 w' g v bs rg rb n (if q.length < n then q ++ [x] else q.tail ++ [x]) := by
  have hf := h.far
  obtain ⟨h1, h2, ⟨cs0, h3⟩, h4, h5⟩ := h
  refine (ringInt_Push rg rb n q x w h4 (by omega)).mono ?_
  rintro e w' ⟨rfl, hr, hm⟩
  refine ⟨rfl, bel_mod h1 hm (by intro i hi hs; omega), h2, ⟨cs0, h3.mod hm (by omega) ?_⟩, hr, h5⟩
  rintro k hk (e | e)
  · exact hf.2.2.1 (by rw [hk, e])
  · exact hf.2.2.2 (by rw [hk, e])
theorem SW.all (h : SW w0 w g v bs rg rb n q) :
    Calls Try.prog 38 #[.pointer (some ⟨rg, 0, none⟩)] w fun e w' => ∃ u, e = .returned u ∧ w'.ownsRow w.heap.size 3 1 u q.length (q.map (.int .i64)) ∧ Below w.heap.size w w' := by
  obtain ⟨h1, h2, ⟨cs0, h3⟩, h4, h5⟩ := h
  exact ringInt_All rg rb n q w h4 (by omega)
theorem SW.bel (h : SW w0 w g v bs rg rb n q) : Below w0.heap.size w0 w := h.1
end
theorem pc_sorted {l s : List Int} {bs : List (Int × Nat)} (h : HistOf bs l) (hp : s.Perm l) (hs : Sorted s) (hne : 0 < l.length) : (∃ a, s[0]? = some a ∧ pcR bs 0 (totB bs : Nat) = (a, true)) ∧ ∃ b, s[s.length - 1]? = some b ∧ pcR bs 100 (totB bs : Nat) = (b, true) := by
  have hl := hp.length_eq
  obtain ⟨a, ha⟩ : ∃ a, s[0]? = some a := ⟨_, List.getElem?_eq_getElem (by omega)⟩
  obtain ⟨b, hb⟩ : ∃ b, s[s.length - 1]? = some b := ⟨_, List.getElem?_eq_getElem (by omega)⟩
  refine ⟨⟨a, ha, ?_⟩, ⟨b, hb, ?_⟩⟩
  · have := rk_sorted h hp hs ha
    unfold pcR
    rw [show max ((0 * ((totB bs : Nat) : Int) + 99) / 100) 1 = ((0 : Nat) : Int) + 1 by omega]
    exact this
  · have := rk_sorted h hp hs hb
    unfold pcR
    rw [h.tot, show max ((100 * (l.length : Int) + 99) / 100) 1 = ((s.length - 1 : Nat) : Int) + 1 by omega]
    exact this
end Go.Proofs.Ytcgonoepndlofaa
