
/- copy, clear and append over rows of elements of several cells: what they come to, on a block that is known whole. No condition. -/
import Derived.Test.YtckndjgdfhbgcaaDoorOwn
import Derived.Laws.CopyOwn
import Derived.Lib.AppendZerosOnto
import Derived.ArgAppend
import Derived.Laws.Externs
import Derived.Lib.Overlaps
namespace Go.Proofs.YtckndjgdfhbgcaaDoor
set_option maxRecDepth 100000
set_option linter.unusedSimpArgs false
open Go.RowKit
set_option linter.unusedVariables false

theorem setRow_blk {w : World} {g : Nat} {t : TypeId} {cur : Array Value} (h : Blk w g t cur) (cs : Array Value) : Blk (w.setRow g cs) g t cs := setRow_heap w g cur cs t (0, 0) h
theorem setRow_mod (w : World) (g : Nat) (cs : Array Value) : Mod (fun k => k = g) w (w.setRow g cs) :=
  ⟨rfl, rfl, rfl, by simp [World.setRow], fun k hk hn => setRow_other w g k cs hn⟩
theorem setCells_row (g : Nat) (t : TypeId) (fr : Nat × Nat) : ∀ (vs : List Value) (o : Nat) (cur : Array Value) (w : World), w.heap[g]? = some (.cells cur t fr) → o + vs.length ≤ cur.size →
    w.setCells g o vs = w.setRow g (splice cur.toList o vs).toArray
  | [], o, cur, w, h, hl => by
    rw [World.setCells, show (splice cur.toList o []).toArray = cur by simp [splice], setRow_self w g cur t fr h]
  | v :: r, o, cur, w, h, hl => by
    have hl' : o + (r.length + 1) ≤ cur.size := by simpa using hl
    rw [World.setCells, setCell_eq_setRow w g o cur t fr v h, setCells_row g t fr r (o + 1) (cur.setIfInBounds o v) _ (setRow_heap w g cur _ t fr h) (by simp; omega), setRow_setRow]
    congr 2
    have e := list_seg_step cur.toList o v r (by simpa using hl')
    unfold splice
    rw [Array.toList_setIfInBounds, ← List.append_assoc, e]
    simp

theorem run_copy_rowK {P : Program} (w : World) (dT sT ty elem : TypeId) (sz : Nat) (g o dLen dCap : Nat) (a : Addr) (sLen sCap : Nat) (cur : Array Value) (t : TypeId) (cs : List Value)
    (hu : P.underlying dT = some (.slice elem)) (hs : (P.info? elem).map (·.size) = some sz)
    (hg : Blk w g t cur) (hn : cs.length = min sLen dLen * sz)
    (hsrc : ∀ j v, cs[j]? = some v → w.cell? (a.add j) = some v) (hfit : o + cs.length ≤ cur.size) (h1 : ∀ v ∈ cs, v.oneCell' = true) :
    (Builtin.copy_ #[dT, sT] ty #[.slice (some ⟨g, o, none⟩) dLen dCap, .slice (some a) sLen sCap]).run P w =
      .ok (goInt (min sLen dLen : Nat)) (w.setRow g (splice cur.toList o cs).toArray) := by
  have hl := run_loadCells_list (P := P) w a cs hsrc
  have hst := run_storeCells_at P g o t cs 0 cur w hg (by simpa using hfit) h1
  cases hq : P.info? elem with
  | none => simp [hq] at hs
  | some i =>
    have hi : i.size = sz := by simpa [hq] using hs
    rw [hn] at hl
    simp [Builtin.copy_, run_underlying hu, Builtin.lenOf, Builtin.firstCells, sizeOf, typeInfo, hq, hi, Nat.min_def] at hl ⊢
    simp [hl, hst, splice]
theorem run_clear_row1 {P : Program} (w : World) (t e ty : TypeId) (z : Value) (zs : List Value) (ht : P.underlying t = some (.slice e)) (hv : ∀ w, (zeroValue e).run P w = .ok z w) (hz : z.cells = zs.toArray) (h1 : ∀ v ∈ zs, v.oneCell' = true)
    (g o c : Nat) (cur : Array Value) (T : TypeId) (hg : Blk w g T cur) (hfit : o + zs.length ≤ cur.size) :
    (Builtin.clear_ #[t] ty #[.slice (some ⟨g, o, none⟩) 1 c]).run P w = .ok (.tuple #[]) (w.setRow g (splice cur.toList o zs).toArray) := by
  have hst := run_storeCells_at P g o T zs 0 cur w hg (by simpa using hfit) h1
  have hzc : (Builtin.zeroCells z.cells 1).toList = zs := by
    rw [hz]
    simp [Builtin.zeroCells]
    apply List.ext_getElem
    · simp
    · intro i h1 h2
      simp at h1
      simp [Nat.mod_eq_of_lt h1, List.getElem?_eq_getElem h1]
  simp [Builtin.clear_, run_underlying ht, hv, hzc, hst, splice]

/-! ### a builtin whose run is known, at the walk -/
theorem wp_copy_ex {P : Program} (w : World) {o : Oper} {a : Act} {K : Act → World → Prop} {Q : Exit → Act → World → Prop} (s x : Operand) (t t' : TypeId)
    (ho : o.op = .call { callee := .builtin .copy, args := #[s, x], argTypes := #[t, t'] }) (u v v' : Value) (hs : a.eval s = u) (hx : a.eval x = v) (φ : World → Prop)
    (hr : ∃ w', (Builtin.copy_ #[t, t'] o.type #[u, v]).run P w = .ok v' w' ∧ φ w') (h : ∀ w', φ w' → K (a.put o.dst v') w') : o.wp P a w K Q := by
  obtain ⟨w', hr, hf⟩ := hr
  unfold Oper.wp execOp
  simp only [ho, resolve, invoke, builtin, Sem.run_bind, Sem.run_pure, Result.andThen_ok, List.map_toArray, List.map_cons, List.map_nil, hs, hx, hr]
  exact h w' hf
theorem wpList_copy_ex {P : Program} {w : World} {ops : Array Oper} {rest : List Oper} {o : Oper} {a : Act} {Q : Exit → Act → World → Prop} (hgd : o.guard = none) (s x : Operand) (t t' : TypeId)
    (ho : o.op = .call { callee := .builtin .copy, args := #[s, x], argTypes := #[t, t'] }) (u v v' : Value) (hs : a.eval s = u) (hx : a.eval x = v) (φ : World → Prop)
    (hr : ∃ w', (Builtin.copy_ #[t, t'] o.type #[u, v]).run P w = .ok v' w' ∧ φ w') (h : ∀ w', φ w' → wpList P ops Q rest (a.put o.dst v') w') : wpList P ops Q (o :: rest) a w :=
  wpList_plain hgd fun _ hK => wp_copy_ex w s x t t' ho u v v' hs hx φ hr fun w' hw => hK _ _ (h w' hw)
theorem step_copy_ex {P : Program} {ops : Array Oper} {o : Oper} {a : Act} {w : World} {K : Act → World → Prop} {Q : Exit → Act → World → Prop} {E : Prop} (hgd : o.guard = none) (s x : Operand) (t t' : TypeId)
    (ho : o.op = .call { callee := .builtin .copy, args := #[s, x], argTypes := #[t, t'] }) (u v v' : Value) (hs : a.eval s = u) (hx : a.eval x = v) (φ : World → Prop)
    (hr : ∃ w', (Builtin.copy_ #[t, t'] o.type #[u, v]).run P w = .ok v' w' ∧ φ w') (h : ∀ w', φ w' → K (a.put o.dst v') w') :
    if Region.wanted o (yielded ops a.tmps) = true then Oper.wp P o a w K Q else E := by
  have hw : Region.wanted o (yielded ops a.tmps) = true := by simp [Region.wanted, hgd]
  rw [if_pos hw]
  exact wp_copy_ex w s x t t' ho u v v' hs hx φ hr h
theorem wp_append_ex {P : Program} (w : World) {o : Oper} {a : Act} {K : Act → World → Prop} {Q : Exit → Act → World → Prop} (s x : Operand) (t t' : TypeId)
    (ho : o.op = .call { callee := .builtin .append, args := #[s, x], argTypes := #[t, t'] }) (u v v' : Value) (hs : a.eval s = u) (hx : a.eval x = v) (φ : World → Prop)
    (hr : ∃ w', (Builtin.append_ #[t, t'] o.type #[u, v]).run P w = .ok v' w' ∧ φ w') (h : ∀ w', φ w' → K (a.put o.dst v') w') : o.wp P a w K Q := by
  obtain ⟨w', hr, hf⟩ := hr
  unfold Oper.wp execOp
  simp only [ho, resolve, invoke, builtin, Sem.run_bind, Sem.run_pure, Result.andThen_ok, List.map_toArray, List.map_cons, List.map_nil, hs, hx, hr]
  exact h w' hf
theorem wpList_append_ex {P : Program} {w : World} {ops : Array Oper} {rest : List Oper} {o : Oper} {a : Act} {Q : Exit → Act → World → Prop} (hgd : o.guard = none) (s x : Operand) (t t' : TypeId)
    (ho : o.op = .call { callee := .builtin .append, args := #[s, x], argTypes := #[t, t'] }) (u v v' : Value) (hs : a.eval s = u) (hx : a.eval x = v) (φ : World → Prop)
    (hr : ∃ w', (Builtin.append_ #[t, t'] o.type #[u, v]).run P w = .ok v' w' ∧ φ w') (h : ∀ w', φ w' → wpList P ops Q rest (a.put o.dst v') w') : wpList P ops Q (o :: rest) a w :=
  wpList_plain hgd fun _ hK => wp_append_ex w s x t t' ho u v v' hs hx φ hr fun w' hw => hK _ _ (h w' hw)
theorem step_append_ex {P : Program} {ops : Array Oper} {o : Oper} {a : Act} {w : World} {K : Act → World → Prop} {Q : Exit → Act → World → Prop} {E : Prop} (hgd : o.guard = none) (s x : Operand) (t t' : TypeId)
    (ho : o.op = .call { callee := .builtin .append, args := #[s, x], argTypes := #[t, t'] }) (u v v' : Value) (hs : a.eval s = u) (hx : a.eval x = v) (φ : World → Prop)
    (hr : ∃ w', (Builtin.append_ #[t, t'] o.type #[u, v]).run P w = .ok v' w' ∧ φ w') (h : ∀ w', φ w' → K (a.put o.dst v') w') :
    if Region.wanted o (yielded ops a.tmps) = true then Oper.wp P o a w K Q else E := by
  have hw : Region.wanted o (yielded ops a.tmps) = true := by simp [Region.wanted, hgd]
  rw [if_pos hw]
  exact wp_append_ex w s x t t' ho u v v' hs hx φ hr h
theorem wpList_clear_ex {P : Program} {w : World} {ops : Array Oper} {rest : List Oper} {o : Oper} {a : Act} {Q : Exit → Act → World → Prop} (hgd : o.guard = none) (s : Operand) (t : TypeId)
    (ho : o.op = .call { callee := .builtin .clear, args := #[s], argTypes := #[t] }) (u v' : Value) (hs : a.eval s = u) (φ : World → Prop)
    (hr : ∃ w', (Builtin.clear_ #[t] o.type #[u]).run P w = .ok v' w' ∧ φ w') (h : ∀ w', φ w' → wpList P ops Q rest (a.put o.dst v') w') : wpList P ops Q (o :: rest) a w := by
  obtain ⟨w', hr, hf⟩ := hr
  refine wpList_plain hgd fun K hK => ?_
  unfold Oper.wp execOp
  simp only [ho, resolve, invoke, builtin, Sem.run_bind, Sem.run_pure, Result.andThen_ok, List.map_toArray, List.map_cons, List.map_nil, hs, hr]
  exact hK _ _ (h w' hf)

/-! ### splices of a list -/
theorem take_splice {α : Type} (L : List α) (o : Nat) (cs : List α) (ho : o ≤ L.length) (k : Nat) (hk : k = o + cs.length) : (splice L o cs).take k = L.take o ++ cs := by
  subst hk
  unfold splice
  rw [← List.append_assoc, List.take_left' (by simp; omega)]
theorem splice_get_lt {α : Type} (L : List α) (o j : Nat) (cs : List α) (ho : o ≤ L.length) (h : j < o) : (splice L o cs)[j]? = L[j]? := by
  unfold splice
  rw [List.getElem?_append_left (by simp; omega), List.getElem?_take, if_pos h]
theorem splice_get_in {α : Type} (L : List α) (o j : Nat) (cs : List α) (ho : o ≤ L.length) (h : j < cs.length) : (splice L o cs)[o + j]? = cs[j]? := by
  unfold splice
  rw [List.getElem?_append_right (by simp; omega), List.length_take, Nat.min_eq_left ho, Nat.add_sub_cancel_left, List.getElem?_append_left h]
theorem splice_get_gt {α : Type} (L : List α) (o j : Nat) (cs : List α) (ho : o + cs.length ≤ L.length) (h : o + cs.length ≤ j) : (splice L o cs)[j]? = L[j]? := by
  unfold splice
  rw [List.getElem?_append_right (by simp; omega), List.length_take, Nat.min_eq_left (by omega), List.getElem?_append_right (by omega), List.getElem?_drop]
  congr 1; omega
end Go.Proofs.YtckndjgdfhbgcaaDoor
