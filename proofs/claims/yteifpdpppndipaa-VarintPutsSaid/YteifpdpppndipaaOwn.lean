
/- Rows of cells that a call owns: what appending to one comes to, and how it is read. No condition. -/
import Derived.Test.YteifpdpppndipaaLib
import Derived.Maps.AppendAt
import Derived.Deep.AppendLies
import Derived.Laws.OwnMore
namespace Go.Proofs.Yteifpdpppndipaa
set_option maxRecDepth 100000
set_option linter.unusedSimpArgs false
open Go.RowKit
set_option linter.unusedVariables false

section
variable {P : Program} {ops : Array Oper} {rest : List Oper} {o : Oper} {a : Act} {Q : Exit → Act → World → Prop}
/-- append(v, x): behind 'at_builtin'; the goal's world is 'W.alloc' of the variadic's box. -/
theorem ap_cells {W : World} (base : Nat) (hgd : o.guard = none) (s x : Operand) (t e : TypeId) (z : Value) (size bytes : Nat)
    (ho : o.op = .call { callee := .builtin .append, args := #[s, x], argTypes := #[t, t] })
    (ht : P.underlying t = some (.slice e)) (hinfo : (P.info? e).map (fun i => (i.zero, i.size, i.bytes)) = some (some z, size, bytes)) (hz : z.cells.size = size) (hs0 : 0 < size) (hb0 : 0 < bytes)
    (v : Value) (n : Nat) (xs ys : List Value) (hs : a.eval s = v) (hx : a.eval x = .slice (some ⟨W.heap.size, 0, none⟩) 1 1) (hys : ys.length = size) (h1 : ∀ u ∈ ys, u.oneCell' = true)
    (HO : W.ownsRow base e size v n xs) (hbase : base ≤ W.heap.size) (hl : (n + 1) * bytes ≤ 140737488355328)
    (h : ∀ v1 w1, w1.ownsRow base e size v1 (n + 1) (xs ++ ys) → W.grownBy w1 v.ownBlock → (v1.ownBlock = v.ownBlock ∨ ∃ b, v1.ownBlock = some b ∧ W.heap.size ≤ b) → wpList P ops Q rest (a.put o.dst v1) w1) :
    wpList P ops Q (o :: rest) a (W.alloc (.cells ys.toArray e)) := by
  obtain ⟨i0, hi, hzz⟩ := Option.map_eq_some_iff.1 hinfo
  simp only [Prod.mk.injEq] at hzz
  obtain ⟨hz0, hz1, hz2⟩ := hzz
  have hlen : n + 1 ≤ 140737488355328 := Nat.le_trans (Nat.le_mul_of_pos_right _ hb0) hl
  refine wpList_append_own_at (W.alloc (.cells ys.toArray e)) hgd s x t ho base e i0 z size bytes ht hi hz0 hz1 hz2 hz hs0 v n xs hs (HO.alloc _) ⟨W.heap.size, 0, none⟩ 1 1 ys hx (by rw [hys]; simp)
    (by simpa using World.news_of_block (cs := ys.toArray) (t := e) (fr := (0, 0)) (heap_alloc_new W (.cells ys.toArray e))) h1 (by simp only [maxLen]; omega) hl (by simp; omega) ?_
  intro v1 w1 hown hg _ hat
  refine h v1 w1 hown ((World.grownBy_alloc W _ _).trans hg) ?_
  rcases hat with hat | hat
  · exact .inl hat
  · exact .inr ⟨_, hat, by simp⟩
end

theorem mk0_run {P : Program} (t e : TypeId) (z : Value) (size bytes : Nat) (ht : P.underlying t = some (.slice e)) (hinfo : (P.info? e).map (fun i => (i.zero, i.size, i.bytes)) = some (some z, size, bytes)) (n : Nat) (hb : bytes * n ≤ 281474976710656) (hn : n ≤ 9223372036854775807) :
    ∀ w : World, (Instr.makeSlice t (.int .i64 0) (.int .i64 (n : Int))).run P w = .ok (.slice (some ⟨w.heap.size, 0, none⟩) 0 n) (w.alloc (.cells (madeCells z.cells (n * size)) e)) := by
  intro w
  obtain ⟨i0, hi, hzz⟩ := Option.map_eq_some_iff.1 hinfo
  simp only [Prod.mk.injEq] at hzz
  obtain ⟨hz0, rfl, rfl⟩ := hzz
  have hb2 : (i0.bytes : Int) * (n : Int) ≤ 281474976710656 := by
    have : (i0.bytes : Int) * (n : Int) = ((i0.bytes * n : Nat) : Int) := by simp
    omega
  have := run_make (P := P) w t e i0 z ht hi hz0 .i64 .i64 0 (n : Int) (by omega) (by omega) hb2 (by omega)
  simpa using this
theorem own_mk0 (w : World) (base : Nat) (e : TypeId) (zs : Array Value) (size n : Nat) (hb : base ≤ w.heap.size) (hn : n ≤ 9223372036854775807) :
    (w.alloc (.cells (madeCells zs (n * size)) e)).ownsRow base e size (.slice (some ⟨w.heap.size, 0, none⟩) 0 n) 0 [] := World.ownsRow_made w _ n hb (by unfold maxLen; exact hn) (size_madeCells _ _)
theorem mkn_run {P : Program} (t e : TypeId) (z : Value) (size bytes : Nat) (ht : P.underlying t = some (.slice e)) (hinfo : (P.info? e).map (fun i => (i.zero, i.size, i.bytes)) = some (some z, size, bytes)) (n : Nat) (hb : bytes * n ≤ 281474976710656) (hn : n ≤ 9223372036854775807) :
    ∀ w : World, (Instr.makeSlice t (.int .i64 (n : Int)) (.int .i64 (n : Int))).run P w = .ok (.slice (some ⟨w.heap.size, 0, none⟩) n n) (w.alloc (.cells (madeCells z.cells (n * size)) e)) := by
  intro w
  obtain ⟨i0, hi, hzz⟩ := Option.map_eq_some_iff.1 hinfo
  simp only [Prod.mk.injEq] at hzz
  obtain ⟨hz0, rfl, rfl⟩ := hzz
  have hb2 : (i0.bytes : Int) * (n : Int) ≤ 281474976710656 := by
    have : (i0.bytes : Int) * (n : Int) = ((i0.bytes * n : Nat) : Int) := by simp
    omega
  have := run_make (P := P) w t e i0 z ht hi hz0 .i64 .i64 (n : Int) (n : Int) (by omega) (by omega) hb2 (by omega)
  simpa using this
theorem mk1_run {P : Program} (t e : TypeId) (z : Value) (bytes : Nat) (ht : P.underlying t = some (.slice e)) (hinfo : (P.info? e).map (fun i => (i.zero, i.size, i.bytes)) = some (some z, 1, bytes)) (hz : z.cells = #[z]) (n : Nat) (hb : bytes * n ≤ 281474976710656) (hn : n ≤ 9223372036854775807) :
    ∀ w : World, (Instr.makeSlice t (.int .i64 (n : Int)) (.int .i64 (n : Int))).run P w = .ok (.slice (some ⟨w.heap.size, 0, none⟩) n n) (w.alloc (.cells (madeCells #[z] n) e)) := by
  intro w
  have := mkn_run t e z 1 bytes ht hinfo n hb hn w
  rwa [Nat.mul_one, hz] at this
/-! ### a block of one-cell elements, as a list -/
def BlkL {α : Type} (f : α → Value) (w : World) (b : Nat) (T : TypeId) (xs : List α) : Prop := Blk w b T (xs.map f).toArray
section
variable {α : Type} {f : α → Value} {w w' : World} {b : Nat} {T : TypeId} {xs : List α}
theorem BlkL.cell (h : BlkL f w b T xs) {k : Nat} {x : α} (hx : xs[k]? = some x) : w.cell? ⟨b, k, none⟩ = some (f x) := by
  rw [Blk.cell h, List.getElem?_toArray, List.getElem?_map, hx]; rfl
theorem BlkL.frozen (h : BlkL f w b T xs) (k : Nat) : w.frozen? ⟨b, k, none⟩ = false := Blk.frozen h k
theorem BlkL.lt (h : BlkL f w b T xs) : b < w.heap.size := Blk.lt h
theorem BlkL.mod {S : Nat → Prop} (h : BlkL f w b T xs) (m : Mod S w w') (hs : ¬ S b) : BlkL f w' b T xs := Blk.mod h m hs
theorem BlkL.below (h : BlkL f w b T xs) (m : Below w.heap.size w w') : BlkL f w' b T xs := Blk.below h m
theorem BlkL.alloc (h : BlkL f w b T xs) (o : Obj) : BlkL f (w.alloc o) b T xs := Blk.alloc h o
theorem BlkL.far (h : BlkL f w b T xs) {p : Addr} (hp : b ≠ p.block) (u : Value) : BlkL f (w.setCell p u) b T xs := Blk.far h hp u
theorem BlkL.set (h : BlkL f w b T xs) (k : Nat) (x : α) : BlkL f (w.setCell ⟨b, k, none⟩ (f x)) b T (xs.set k x) := by
  refine (Blk.set h k (f x)).cast ?_
  rw [List.setIfInBounds_toArray, List.map_set]
theorem BlkL.made (w : World) (T : TypeId) (z : α) (n : Nat) : BlkL f (w.alloc (.cells (madeCells #[f z] (n * 1)) T)) w.heap.size T (List.replicate n z) := by
  refine (Blk.new_ w T _).cast ?_
  apply Array.ext'
  rw [toList_madeCells_one, Nat.mul_one, List.map_replicate]
theorem BlkL.made' (w : World) (T : TypeId) (z : α) (n : Nat) : BlkL f (w.alloc (.cells (madeCells #[f z] n) T)) w.heap.size T (List.replicate n z) := by
  refine (Blk.new_ w T _).cast ?_
  apply Array.ext'
  rw [toList_madeCells_one, List.map_replicate]
end
theorem fill_get {α : Type} (a z : α) {k m : Nat} (h : k < m) : (List.replicate k a ++ List.replicate (m - k) z)[k]? = some z := by
  rw [List.getElem?_append_right (by simp), List.length_replicate, Nat.sub_self, List.getElem?_replicate, if_pos (by omega)]
theorem fill_set {α : Type} (a z : α) {k m : Nat} (h : k < m) : (List.replicate k a ++ List.replicate (m - k) z).set k a = List.replicate (k + 1) a ++ List.replicate (m - (k + 1)) z := by
  rw [List.set_append_right _ _ (by simp), List.length_replicate, Nat.sub_self, show m - k = (m - (k + 1)) + 1 by omega, List.replicate_succ, List.set_cons_zero, List.replicate_succ']
  simp
/-! ### a piece of a slice -/
def cutA (A : Option Addr) (lo sz c : Nat) : Option Addr := if c = lo then A else A.map (·.add (lo * sz))
theorem cut_lh {P : Program} (t e sz : Nat) (ht : P.underlying t = some (.slice e)) (hs0 : (P.info? e).map (·.size) = some sz) (A : Option Addr) (n c lo hi : Nat) (h1 : lo ≤ hi) (h2 : hi ≤ c) :
    ∀ W : World, (Instr.slice t (.slice A n c) (some (.int .i64 (lo : Int))) (some (.int .i64 (hi : Int))) none).run P W = .ok (.slice (cutA A lo sz c) (hi - lo) (c - lo)) W := by
  intro W
  obtain ⟨i, hi0, hs⟩ := Option.map_eq_some_iff.1 hs0
  have hel : P.elem t = e := by simp [Program.elem, ht]
  have hu : P.underlying t = some (.slice (P.elem t)) := by rw [hel]; exact ht
  rw [run_slice_lh W t A n c hu .i64 .i64 (lo : Int) (hi : Int) (Int.natCast_nonneg _) (by omega) (by omega), hel]
  simp [sizeOf, typeInfo, hi0, hs, sliced, Result.andThen, cutA]
theorem cut_l {P : Program} (t e sz : Nat) (ht : P.underlying t = some (.slice e)) (hs0 : (P.info? e).map (·.size) = some sz) (A : Option Addr) (n c lo : Nat) (h1 : lo ≤ n) :
    ∀ W : World, (Instr.slice t (.slice A n c) (some (.int .i64 (lo : Int))) none none).run P W = .ok (.slice (cutA A lo sz c) (n - lo) (c - lo)) W := by
  intro W
  obtain ⟨i, hi0, hs⟩ := Option.map_eq_some_iff.1 hs0
  have hel : P.elem t = e := by simp [Program.elem, ht]
  have hu : P.underlying t = some (.slice (P.elem t)) := by rw [hel]; exact ht
  rw [run_slice_l W t A n c hu .i64 (lo : Int) (Int.natCast_nonneg _) (by omega), hel]
  simp [sizeOf, typeInfo, hi0, hs, sliced, Result.andThen, cutA]
theorem cut_h {P : Program} (t e sz : Nat) (ht : P.underlying t = some (.slice e)) (hs0 : (P.info? e).map (·.size) = some sz) (A : Option Addr) (n c hi : Nat) (h2 : hi ≤ c) :
    ∀ W : World, (Instr.slice t (.slice A n c) none (some (.int .i64 (hi : Int))) none).run P W = .ok (.slice A hi c) W := by
  intro W
  obtain ⟨i, hi0, hs⟩ := Option.map_eq_some_iff.1 hs0
  have hel : P.elem t = e := by simp [Program.elem, ht]
  have hu : P.underlying t = some (.slice (P.elem t)) := by rw [hel]; exact ht
  rw [run_slice_h W t A n c hu .i64 (hi : Int) (Int.natCast_nonneg _) (by omega), hel]
  have ha : A.map (fun x : Addr => x.add 0) = A := by cases A <;> simp [Addr.add]
  simp [sizeOf, typeInfo, hi0, hs, sliced, Result.andThen, ha]
theorem add_add' (ad : Addr) (i j : Nat) : (ad.add i).add j = ad.add (i + j) := by
  unfold Addr.add
  by_cases hi : i = 0
  · subst hi; simp
  · by_cases hj : j = 0
    · subst hj; simp
    · simp [hi, hj, Nat.add_assoc]
theorem Rd.cut {w : World} {A : Option Addr} {vs : List Value} (h : Rd w A vs) (lo sz c k : Nat) (hk : c = lo → k = 0) : Rd w (cutA A lo sz c) ((vs.drop (lo * sz)).take k) := by
  intro j u hj
  rw [List.getElem?_take] at hj
  split at hj
  · rename_i hjk
    rw [List.getElem?_drop] at hj
    obtain ⟨ad, rfl, hc⟩ := h _ _ hj
    unfold cutA
    rw [if_neg (fun e => by have := hk e; omega)]
    exact ⟨ad.add (lo * sz), rfl, by rw [add_add']; exact hc⟩
  · cases hj

theorem own_nil' (W : World) (base : Nat) (e : TypeId) (size : Nat) : W.ownsRow base e size (.slice none 0 0) 0 [] := ⟨by simp, .inl ⟨rfl, rfl⟩⟩
theorem own_base' {w : World} {base : Nat} {e : TypeId} {size n : Nat} {v : Value} {xs : List Value} (h : w.ownsRow base e size v n xs) (k : Nat) (hk : v.ownBlock = some k) : base ≤ k := by
  rcases h.2 with ⟨rfl, _⟩ | ⟨g, cap, cur, rfl, hb, _⟩
  · simp [Value.ownBlock] at hk
  · simp [Value.ownBlock] at hk; omega
theorem own_lt' {w : World} {base : Nat} {e : TypeId} {size n : Nat} {v : Value} {xs : List Value} (h : w.ownsRow base e size v n xs) (k : Nat) (hk : v.ownBlock = some k) : k < w.heap.size := by
  rcases h.2 with ⟨rfl, _⟩ | ⟨g, cap, cur, rfl, hb, hh, _⟩
  · simp [Value.ownBlock] at hk
  · simp [Value.ownBlock] at hk; subst hk; exact (Array.getElem?_eq_some_iff.1 hh).1
theorem own_mod {w w1 : World} {S : Nat → Prop} {base : Nat} {e : TypeId} {size n : Nat} {v : Value} {xs : List Value} (h : w.ownsRow base e size v n xs) (hm : Mod S w w1) (hs : ∀ k, v.ownBlock = some k → ¬ S k) : w1.ownsRow base e size v n xs := by
  rcases h.2 with ⟨rfl, hn⟩ | ⟨g, cap, cur, rfl, hb, hh, h3⟩
  · exact ⟨h.1, .inl ⟨rfl, hn⟩⟩
  · exact ⟨h.1, .inr ⟨g, cap, cur, rfl, hb, (hm.block g (Array.getElem?_eq_some_iff.1 hh).1 (hs g rfl)).trans hh, h3⟩⟩
theorem own_below {w w1 : World} {base : Nat} {e : TypeId} {size n : Nat} {v : Value} {xs : List Value} (h : w.ownsRow base e size v n xs) (hm : Below w.heap.size w w1) : w1.ownsRow base e size v n xs :=
  own_mod h (Mod.of_below (S := fun _ => False) hm) (fun _ _ h => h)
theorem own_lower {w : World} {base base' : Nat} {e : TypeId} {size n : Nat} {v : Value} {xs : List Value} (h : w.ownsRow base e size v n xs) (hb : base' ≤ base) : w.ownsRow base' e size v n xs := by
  rcases h.2 with hn | ⟨g, cap, cur, hv, hb', h3⟩
  · exact ⟨h.1, .inl hn⟩
  · exact ⟨h.1, .inr ⟨g, cap, cur, hv, Nat.le_trans hb hb', h3⟩⟩
theorem own_rd {w : World} {base : Nat} {e : TypeId} {size n : Nat} {v : Value} {xs : List Value} (h : w.ownsRow base e size v n xs) : ∃ A c, v = .slice A n c ∧ n ≤ c ∧ c ≤ maxLen ∧ Rd w A xs := by
  rcases h.2 with ⟨rfl, rfl⟩ | ⟨g, cap, cur, rfl, hb, hh, h1, h2, h3, h4⟩
  · have h1 := h.1
    rw [Nat.zero_mul] at h1
    have : xs = [] := List.eq_nil_of_length_eq_zero h1
    subst this
    exact ⟨none, 0, rfl, Nat.le_refl _, by unfold maxLen; omega, fun j u hj => by simp at hj⟩
  · refine ⟨_, cap, rfl, h1, h2, fun j u hj => ⟨_, rfl, ?_⟩⟩
    have ha : (⟨g, 0, none⟩ : Addr).add j = ⟨g, j, none⟩ := by unfold Addr.add; split <;> simp_all
    rw [ha]
    simp only [World.cell?, hh]
    rw [← h4, List.getElem?_take] at hj
    split at hj
    · simpa using hj
    · cases hj
theorem Blk.rd {w : World} {g : Nat} {t : TypeId} {cs : Array Value} (h : Blk w g t cs) {xs : List Value} (hx : cs.toList = xs) : Rd w (some ⟨g, 0, none⟩) xs := fun j u hj => ⟨_, rfl, by
    have ha : (⟨g, 0, none⟩ : Addr).add j = ⟨g, j, none⟩ := by unfold Addr.add; split <;> simp_all
    subst hx
    rw [ha, h.cell]; simpa using hj⟩
theorem own_ne' {w : World} {base : Nat} {e t : TypeId} {size n g : Nat} {v : Value} {xs : List Value} {cs : Array Value} (h : w.ownsRow base e size v n xs) (hg : Blk w g t cs) (hne : e ≠ t) : v.ownBlock ≠ some g := by
  rcases h.2 with ⟨rfl, _⟩ | ⟨g', cap, cur, rfl, _, hh, _⟩
  · simp [Value.ownBlock]
  · intro hk
    simp [Value.ownBlock] at hk
    subst hk
    unfold Blk at hg
    rw [hg] at hh
    injection hh with hh; injection hh with _ hh _
    exact hne hh.symm
theorem own_set' {w : World} {base : Nat} {e : TypeId} {size n : Nat} {v : Value} {xs : List Value} (h : w.ownsRow base e size v n xs) {p : Addr} (hp : v.ownBlock ≠ some p.block) (u : Value) : (w.setCell p u).ownsRow base e size v n xs :=
  own_mod h ((Mod.refl (fun k => k = p.block) w).setCell (fun _ => rfl) u) (fun k hk e => hp (e ▸ hk))
end Go.Proofs.Yteifpdpppndipaa
