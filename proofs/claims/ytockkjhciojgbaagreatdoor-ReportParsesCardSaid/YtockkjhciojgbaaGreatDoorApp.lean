
/- append(row, piece...) where the row is owned and the piece whatever (nil, too): one law for a plain region and for one that draws. No condition. -/
import Derived.Test.YtockkjhciojgbaaGreatDoorPackA
namespace Go.Proofs.YtockkjhciojgbaaGreatDoor
set_option maxRecDepth 100000
set_option linter.unusedSimpArgs false
open Go.RowKit
set_option linter.unusedVariables false

theorem run_app {P : Program} (w : World) (base : Nat) (t ty e : TypeId) (z : Value) (size bytes : Nat) (ht : P.underlying t = some (.slice e)) (hinfo : (P.info? e).map (fun i => (i.zero, i.size, i.bytes)) = some (some z, size, bytes)) (hz : z.cells.size = size) (hs0 : 0 < size)
    (v : Value) (n : Nat) (xs : List Value) (HO : w.ownsRow base e size v n xs) (A : Option Addr) (m c : Nat) (ys : List Value) (hl : ys.length = m * size) (hr : Rd w A ys) (h1 : ∀ u ∈ ys, u.oneCell' = true)
    (h63 : n + m ≤ maxLen) (hbytes : (n + m) * bytes ≤ 140737488355328) (hbase : base ≤ w.heap.size) :
    ∃ v' w', (Builtin.append_ #[t, t] ty #[v, .slice A m c]).run P w = .ok v' w' ∧ (w'.ownsRow base e size v' (n + m) (xs ++ ys) ∧ w.grownBy w' v.ownBlock ∧ (v'.ownBlock = v.ownBlock ∨ v'.ownBlock = some w.heap.size)) := by
  obtain ⟨i0, hi, hzz⟩ := Option.map_eq_some_iff.1 hinfo
  simp only [Prod.mk.injEq] at hzz
  obtain ⟨hz0, hz1, hz2⟩ := hzz
  cases A with
  | some ad =>
    obtain ⟨v', w', hrun, h2, h3, h4, h5⟩ := run_append_own_at (P := P) w base t ty e i0 z size bytes ht hi hz0 hz1 hz2 hz hs0 v n xs HO ad m c ys hl (fun j u hj => by obtain ⟨ad', e, hc⟩ := hr j u hj; injection e with e; subst e; exact hc) h1 h63 hbytes hbase
    exact ⟨v', w', hrun, h2, h3, h5⟩
  | none =>
    have hys : ys = [] := by
      cases ys with
      | nil => rfl
      | cons y ys => obtain ⟨ad', e, _⟩ := hr 0 y rfl; cases e
    subst hys
    have hm : m = 0 := by
      have hl : 0 = m * size := hl
      rcases Nat.mul_eq_zero.1 hl.symm with h | h
      · exact h
      · omega
    subst hm
    refine ⟨v, w, ?_, ?_, ⟨rfl, rfl, rfl, Nat.le_refl _, fun _ _ _ => rfl⟩, .inl rfl⟩
    · rcases HO.2 with ⟨rfl, rfl⟩ | ⟨g, cap, cur, rfl, _, _, hnc, _⟩
      · simp [Builtin.append_, run_underlying ht, sizeOf, typeInfo, hi, Builtin.lenOf, Builtin.firstCells]
      · simp [Builtin.append_, run_underlying ht, sizeOf, typeInfo, hi, Builtin.lenOf, Builtin.firstCells, hnc, storeCells]
    · simpa using HO
theorem wp_append_ex2 {P : Program} (w : World) {o : Oper} {a : Act} {K : Act → World → Prop} {Q : Exit → Act → World → Prop} (s x : Operand) (t t' : TypeId)
    (ho : o.op = .call { callee := .builtin .append, args := #[s, x], argTypes := #[t, t'] }) (u v : Value) (hs : a.eval s = u) (hx : a.eval x = v) (φ : Value → World → Prop)
    (hr : ∃ v' w', (Builtin.append_ #[t, t'] o.type #[u, v]).run P w = .ok v' w' ∧ φ v' w') (h : ∀ v' w', φ v' w' → K (a.put o.dst v') w') : o.wp P a w K Q := by
  obtain ⟨v', w', hr, hf⟩ := hr
  unfold Oper.wp execOp
  simp only [ho, resolve, invoke, builtin, Sem.run_bind, Sem.run_pure, Result.andThen_ok, List.map_toArray, List.map_cons, List.map_nil, hs, hx, hr]
  exact h v' w' hf
theorem wpList_append_ex2 {P : Program} {w : World} {ops : Array Oper} {rest : List Oper} {o : Oper} {a : Act} {Q : Exit → Act → World → Prop} (hgd : o.guard = none) (s x : Operand) (t t' : TypeId)
    (ho : o.op = .call { callee := .builtin .append, args := #[s, x], argTypes := #[t, t'] }) (u v : Value) (hs : a.eval s = u) (hx : a.eval x = v) (φ : Value → World → Prop)
    (hr : ∃ v' w', (Builtin.append_ #[t, t'] o.type #[u, v]).run P w = .ok v' w' ∧ φ v' w') (h : ∀ v' w', φ v' w' → wpList P ops Q rest (a.put o.dst v') w') : wpList P ops Q (o :: rest) a w :=
  wpList_plain hgd fun _ hK => wp_append_ex2 w s x t t' ho u v hs hx φ hr fun v' w' hw => hK _ _ (h v' w' hw)
theorem step_append_ex2 {P : Program} {ops : Array Oper} {o : Oper} {a : Act} {w : World} {K : Act → World → Prop} {Q : Exit → Act → World → Prop} {E : Prop} (hgd : o.guard = none) (s x : Operand) (t t' : TypeId)
    (ho : o.op = .call { callee := .builtin .append, args := #[s, x], argTypes := #[t, t'] }) (u v : Value) (hs : a.eval s = u) (hx : a.eval x = v) (φ : Value → World → Prop)
    (hr : ∃ v' w', (Builtin.append_ #[t, t'] o.type #[u, v]).run P w = .ok v' w' ∧ φ v' w') (h : ∀ v' w', φ v' w' → K (a.put o.dst v') w') :
    if Region.wanted o (yielded ops a.tmps) = true then Oper.wp P o a w K Q else E := by
  have hw : Region.wanted o (yielded ops a.tmps) = true := by simp [Region.wanted, hgd]
  rw [if_pos hw]
  exact wp_append_ex2 w s x t t' ho u v hs hx φ hr h
theorem own_lit0 (w : World) (base : Nat) (e : TypeId) (size : Nat) (hb : base ≤ w.heap.size) : (w.alloc (.cells #[] e)).ownsRow base e size (.slice (some ⟨w.heap.size, 0, none⟩) 0 0) 0 [] :=
  World.ownsRow_lit w #[] 0 hb (by unfold maxLen; omega) (by simp)
theorem grown_mod {w w' : World} {v : Value} (h : w.grownBy w' v.ownBlock) : Mod (fun k => v.ownBlock = some k) w w' := (Mod.of_grown h).mono (fun k _ h => h)
theorem own_drewN {w : World} {base : Nat} {e : TypeId} {size n : Nat} {v : Value} {xs : List Value} (h : w.ownsRow base e size v n xs) (q : Nat) : (w.drewN q).ownsRow base e size v n xs := h
theorem own_drew {w : World} {base : Nat} {e : TypeId} {size n : Nat} {v : Value} {xs : List Value} (h : w.ownsRow base e size v n xs) : w.drew.ownsRow base e size v n xs := h
theorem rd_new (w : World) (e : TypeId) (x : Value) : Rd (w.alloc (.cells #[x] e)) (some ⟨w.heap.size, 0, none⟩) [x] := (Blk.new_ w e #[x]).rd rfl
theorem Rd.drewN {w : World} {A : Option Addr} {vs : List Value} (h : Rd w A vs) (q : Nat) : Rd (w.drewN q) A vs := h
theorem Rd.drew {w : World} {A : Option Addr} {vs : List Value} (h : Rd w A vs) : Rd w.drew A vs := h
theorem Rd.alloc {w : World} {A : Option Addr} {vs : List Value} (h : Rd w A vs) (o : Obj) : Rd (w.alloc o) A vs := h.below (bel_alloc (bel_refl w) o)
/-- A row of whole numbers laid anew: append([]int{}, l...). -/
theorem copy_row {P : Program} (w : World) (t ty e : TypeId) (ht : P.underlying t = some (.slice e)) (hinfo : (P.info? e).map (fun i => (i.zero, i.size, i.bytes)) = some (some (.int .i64 0), 1, 8)) (A : Option Addr) (c : Nat) (q : List Int) (hr : Rd w A (q.map (.int .i64))) (hq : q.length ≤ 100000)
    (W : World) (N' : Nat) (hN : w.heap.size ≤ N') (ho : W.ownsRow w.heap.size e 1 (.slice (some ⟨N', 0, none⟩) 0 0) 0 []) (hB : Below w.heap.size w W) :
    ∃ v' w', (Builtin.append_ #[t, t] ty #[.slice (some ⟨N', 0, none⟩) 0 0, .slice A q.length c]).run P W = .ok v' w' ∧ Hid (w'.ownsRow w.heap.size e 1 v' (0 + q.length) ([] ++ q.map (.int .i64)) ∧ Below w.heap.size w w' ∧ Mod (fun k => k = N') W w') := by
  obtain ⟨v', w', h1, h2, h3, h4⟩ := run_app (P := P) W w.heap.size t ty e (.int .i64 0) 1 8 ht hinfo rfl (by decide) _ 0 [] ho A q.length c _ (by simp) (hr.below hB) (by intro u hu; obtain ⟨y, _, rfl⟩ := List.mem_map.1 hu; rfl) (by unfold maxLen; omega) (by omega) hB.size
  refine ⟨v', w', h1, h2, bel_mod hB (grown_mod h3) (fun i hi e => ?_), (grown_mod h3).mono (fun k _ hk => ?_)⟩
  · simp [Value.ownBlock] at e; omega
  · simp [Value.ownBlock] at hk; exact hk.symm
theorem more_row {P : Program} (w : World) (t ty e : TypeId) (ht : P.underlying t = some (.slice e)) (hinfo : (P.info? e).map (fun i => (i.zero, i.size, i.bytes)) = some (some (.int .i64 0), 1, 8)) (q : List Int) (hq : q.length ≤ 100000) (n : Int) (v1 : Value)
    (W : World) (M : Nat) (ho : W.ownsRow w.heap.size e 1 v1 (0 + q.length) ([] ++ q.map (.int .i64))) (hB : Below w.heap.size w W) (hr : Rd W (some ⟨M, 0, none⟩) [.int .i64 n]) :
    ∃ v' w', (Builtin.append_ #[t, t] ty #[v1, .slice (some ⟨M, 0, none⟩) 1 1]).run P W = .ok v' w' ∧ Hid (w'.ownsRow w.heap.size e 1 v' (q ++ [n]).length ((q ++ [n]).map (.int .i64)) ∧ Below w.heap.size w w') := by
  obtain ⟨v', w', h1, h2, h3, h4⟩ := run_app (P := P) W w.heap.size t ty e (.int .i64 0) 1 8 ht hinfo rfl (by decide) _ (0 + q.length) _ ho (some ⟨M, 0, none⟩) 1 1 [.int .i64 n] rfl hr (by intro u hu; rw [List.mem_singleton] at hu; subst hu; rfl) (by unfold maxLen; omega) (by omega) hB.size
  refine ⟨v', w', h1, ?_, bel_mod hB (grown_mod h3) (fun i hi e => ?_)⟩
  · rw [List.nil_append, Nat.zero_add] at h2
    rw [List.length_append, List.map_append]; exact h2
  · have := own_base' ho i e; omega
theorem rd_new1 (w : World) (o : Obj) (e : TypeId) (x : Value) : Rd ((w.alloc o).alloc (.cells #[x] e)) (some ⟨w.heap.size + 1, 0, none⟩) [x] := by
  have h := rd_new (w.alloc o) e x
  rwa [show (w.alloc o).heap.size = w.heap.size + 1 by simp] at h
theorem own_lit1 (w : World) (o : Obj) (base : Nat) (e : TypeId) (size : Nat) (hb : base ≤ w.heap.size) : ((w.alloc o).alloc (.cells #[] e)).ownsRow base e size (.slice (some ⟨w.heap.size + 1, 0, none⟩) 0 0) 0 [] := by
  have h := own_lit0 (w.alloc o) base e size (by simp; omega)
  rwa [show (w.alloc o).heap.size = w.heap.size + 1 by simp] at h
theorem rd_keep {w w' : World} {g N : Nat} {vs : List Value} (h : Rd w (some ⟨g, 0, none⟩) vs) (hm : Mod (fun k => k = N) w w') (hne : g ≠ N) : Rd w' (some ⟨g, 0, none⟩) vs :=
  h.mod hm (fun ad e => by injection e with e; subst e; exact hne)
end Go.Proofs.YtockkjhciojgbaaGreatDoor
