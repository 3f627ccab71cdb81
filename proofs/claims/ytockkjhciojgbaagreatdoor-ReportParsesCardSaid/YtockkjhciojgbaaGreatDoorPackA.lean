/- Several texts as one. No condition beyond each one's own. -/
import Derived.WalkKit
import Derived.Deep.Draws
import Derived.Deep.QuietTactic
import Derived.Maps.AppendAt
import Derived.Deep.AppendLies
import Derived.Laws.OwnMore
import Derived.ArgAppend
import Derived.Laws.BytesArg
import Derived.Lib.ConvBytes
import Derived.Test.YtockkjhciojgbaaGreatDoorProg
import Derived.WalkSpells
import Derived.WalkLawsBesides
import Derived.BigQuiet
import Derived.Deep.DeepCutAuto
import Derived.Deep.CutBlock
import Derived.Deep.LoopGhost
import Derived.Deep.RegionHeld3
/- Lib -/
/- Facts on worlds that my walks share: which blocks a call may have changed, a block known whole, numbers of 64 bits. No condition. -/
namespace Go.Proofs.YtockkjhciojgbaaGreatDoor
set_option maxRecDepth 100000
set_option linter.unusedSimpArgs false
open Go.RowKit

/-! ### which blocks may have changed -/
structure Mod (S : Nat → Prop) (w w' : World) : Prop where
  os : w'.os = w.os
  tape : w'.tape = w.tape
  output : w'.output = w.output
  size : w.heap.size ≤ w'.heap.size
  block : ∀ k, k < w.heap.size → ¬ S k → w'.heap[k]? = w.heap[k]?

theorem Mod.refl (S : Nat → Prop) (w : World) : Mod S w w := ⟨rfl, rfl, rfl, Nat.le_refl _, fun _ _ _ => rfl⟩
theorem Mod.then_ {S T : Nat → Prop} {a b c : World} (h : Mod S a b) (k : Mod T b c) (hs : ∀ i, i < a.heap.size → T i → S i) : Mod S a c :=
  ⟨k.os.trans h.os, k.tape.trans h.tape, k.output.trans h.output, Nat.le_trans h.size k.size,
    fun i hi hn => (k.block i (Nat.lt_of_lt_of_le hi h.size) (fun ht => hn (hs i hi ht))).trans (h.block i hi hn)⟩
theorem Mod.trans {S : Nat → Prop} {a b c : World} (h : Mod S a b) (k : Mod S b c) : Mod S a c := h.then_ k (fun _ _ h => h)
theorem Mod.mono {S T : Nat → Prop} {a b : World} (h : Mod S a b) (hs : ∀ i, i < a.heap.size → S i → T i) : Mod T a b :=
  ⟨h.os, h.tape, h.output, h.size, fun i hi hn => h.block i hi (fun ht => hn (hs i hi ht))⟩
theorem Mod.of_below {S : Nat → Prop} {a b : World} (h : Below a.heap.size a b) : Mod S a b := ⟨h.os, h.tape, h.output, h.size, fun i hi _ => h.block i hi⟩
theorem Mod.below {a b : World} {S : Nat → Prop} (h : Mod S a b) (hs : ∀ i, i < a.heap.size → ¬ S i) : Below a.heap.size a b := ⟨h.os, h.tape, h.output, h.size, fun i hi => h.block i hi (hs i hi)⟩
theorem Mod.below0 {a b : World} (h : Mod (fun _ => False) a b) : Below a.heap.size a b := h.below fun _ _ h => h
theorem Mod.of_grown {a b : World} {row : Option Nat} (h : a.grownBy b row) : Mod (fun k => row = some k) a b :=
  ⟨h.os, h.tape, h.output, h.size, fun i hi hn => h.block i hi (fun e => hn e.symm)⟩
theorem Mod.alloc {S : Nat → Prop} {a b : World} (h : Mod S a b) (o : Obj) : Mod S a (b.alloc o) :=
  h.trans ⟨rfl, rfl, rfl, by simp, fun k hk _ => Below.heap_alloc _ _ _ hk⟩
theorem Mod.setCell {S : Nat → Prop} {a b : World} (h : Mod S a b) {p : Addr} (hp : p.block < a.heap.size → S p.block) (u : Value) : Mod S a (b.setCell p u) :=
  ⟨h.os, h.tape, h.output, by simpa using h.size, fun k hk hn => (Below.heap_setCell _ _ _ _ (fun e => hn (by subst e; exact hp hk))).trans (h.block k hk hn)⟩
theorem Mod.drew {S : Nat → Prop} {a b : World} (h : Mod S a b) : Mod S a b.drew := ⟨h.os, h.tape, h.output, h.size, h.block⟩
theorem Mod.drewN {S : Nat → Prop} {a b : World} (h : Mod S a b) (n : Nat) : Mod S a (b.drewN n) := ⟨h.os, h.tape, h.output, h.size, h.block⟩
theorem Mod.grown {S : Nat → Prop} {a b c : World} {row : Option Nat} (h : Mod S a b) (k : b.grownBy c row) (hr : ∀ i, i < a.heap.size → row = some i → S i) : Mod S a c :=
  h.then_ (Mod.of_grown k) hr

theorem bel_refl (w : World) : Below w.heap.size w w := Below.refl _ _
theorem bel_alloc {w W : World} (h : Below w.heap.size w W) (o : Obj) : Below w.heap.size w (W.alloc o) := h.alloc h.size o
theorem bel_drew {w W : World} (h : Below w.heap.size w W) : Below w.heap.size w W.drew := ⟨h.os, h.tape, h.output, h.size, h.block⟩
theorem bel_drewN {w W : World} (h : Below w.heap.size w W) (n : Nat) : Below w.heap.size w (W.drewN n) := ⟨h.os, h.tape, h.output, h.size, h.block⟩
theorem bel_then {w w1 w2 : World} (h : Below w.heap.size w w1) (k : Below w1.heap.size w1 w2) : Below w.heap.size w w2 := h.trans (k.mono h.size)
theorem bel_mod {w w1 w2 : World} {S : Nat → Prop} (h : Below w.heap.size w w1) (k : Mod S w1 w2) (hs : ∀ i, i < w.heap.size → ¬ S i) : Below w.heap.size w w2 :=
  ⟨k.os.trans h.os, k.tape.trans h.tape, k.output.trans h.output, Nat.le_trans h.size k.size, fun i hi => (k.block i (Nat.lt_of_lt_of_le hi h.size) (hs i hi)).trans (h.block i hi)⟩
theorem bel_set {w W : World} (h : Below w.heap.size w W) {p : Addr} (hp : w.heap.size ≤ p.block) (u : Value) : Below w.heap.size w (W.setCell p u) := h.setCell hp u

theorem Mod.cell {S : Nat → Prop} {a b : World} (h : Mod S a b) {p : Addr} {v : Value} (hc : a.cell? p = some v) (hs : ¬ S p.block) : b.cell? p = some v :=
  (World.cell?_of_block (w := a) (h.block p.block (World.block_lt_of_cell? a p hc) hs)).trans hc
/-! ### a block known whole -/
def Blk (w : World) (g : Nat) (t : TypeId) (cs : Array Value) : Prop := w.heap[g]? = some (.cells cs t (0, 0))

theorem Blk.lt {w : World} {g : Nat} {t : TypeId} {cs : Array Value} (h : Blk w g t cs) : g < w.heap.size := (Array.getElem?_eq_some_iff.1 h).1
theorem Blk.mod {w w' : World} {g : Nat} {t : TypeId} {cs : Array Value} {S : Nat → Prop} (h : Blk w g t cs) (m : Mod S w w') (hs : ¬ S g) : Blk w' g t cs :=
  (m.block g h.lt hs).trans h
theorem Blk.below {w w' : World} {g : Nat} {t : TypeId} {cs : Array Value} (h : Blk w g t cs) (m : Below w.heap.size w w') : Blk w' g t cs := (m.block g h.lt).trans h
theorem Blk.cell {w : World} {g : Nat} {t : TypeId} {cs : Array Value} (h : Blk w g t cs) (i : Nat) : w.cell? ⟨g, i, none⟩ = cs[i]? := by
  unfold Blk at h; simp [World.cell?, h]
theorem Blk.frozen {w : World} {g : Nat} {t : TypeId} {cs : Array Value} (h : Blk w g t cs) (i : Nat) : w.frozen? ⟨g, i, none⟩ = false := by
  unfold Blk at h; simp [World.frozen?, h]
theorem Blk.shape {w : World} {g : Nat} {t : TypeId} {cs : Array Value} (h : Blk w g t cs) : w.shape? g = some (t, cs.size) := by
  unfold Blk at h; simp [World.shape?, h]
theorem Blk.set {w : World} {g : Nat} {t : TypeId} {cs : Array Value} (h : Blk w g t cs) (i : Nat) (u : Value) : Blk (w.setCell ⟨g, i, none⟩ u) g t (cs.setIfInBounds i u) := by
  unfold Blk at *
  simp only [World.setCell, Array.getElem?_modify, if_true, h, Option.map_some]; rfl
theorem Blk.far {w : World} {g : Nat} {t : TypeId} {cs : Array Value} (h : Blk w g t cs) {p : Addr} (hp : g ≠ p.block) (u : Value) : Blk (w.setCell p u) g t cs :=
  (Below.heap_setCell w p u g hp).trans h
theorem Blk.alloc {w : World} {g : Nat} {t : TypeId} {cs : Array Value} (h : Blk w g t cs) (o : Obj) : Blk (w.alloc o) g t cs := (Below.heap_alloc w o g h.lt).trans h
theorem Blk.drew {w : World} {g : Nat} {t : TypeId} {cs : Array Value} (h : Blk w g t cs) : Blk w.drew g t cs := h
theorem Blk.drewN {w : World} {g : Nat} {t : TypeId} {cs : Array Value} (h : Blk w g t cs) (n : Nat) : Blk (w.drewN n) g t cs := h
theorem Blk.new_ (w : World) (t : TypeId) (cs : Array Value) : Blk (w.alloc (.cells cs t)) w.heap.size t cs := by
  unfold Blk; exact heap_alloc_new w _
theorem Blk.cast {w : World} {g : Nat} {t : TypeId} {cs cs' : Array Value} (h : Blk w g t cs) (e : cs = cs') : Blk w g t cs' := e ▸ h
theorem Blk.ne {w : World} {g g' : Nat} {t t' : TypeId} {cs cs' : Array Value} (h : Blk w g t cs) (h' : Blk w g' t' cs') (hne : t ≠ t') : g ≠ g' := by
  rintro rfl; unfold Blk at h h'; rw [h] at h'; injection h' with h'; injection h' with _ h' _; exact hne h'

/-- a store of what a cell holds already -/
theorem setCell_self {w : World} {a : Addr} {v : Value} (h : w.cell? a = some v) : w.setCell a v = w := by
  unfold World.setCell
  unfold World.cell? at h
  have : w.heap.modify a.block (fun
      | .cells c elem frozen => .cells (if a.spot.isSome then c else c.setIfInBounds a.off v) elem frozen
      | o => o) = w.heap := by
    apply Array.ext_getElem?
    intro i
    rw [Array.getElem?_modify]
    split
    · rename_i e; subst e
      cases hb : w.heap[a.block]? with
      | none => simp
      | some o =>
        cases o <;> simp only [Option.map_some]
        rename_i c t f
        simp only [hb] at h
        split at h
        · cases h
        · rename_i hsp
          rw [if_neg hsp]
          congr 2
          apply Array.ext_getElem?
          intro j
          rw [Array.getElem?_setIfInBounds]
          split
          · rename_i e; subst e; split
            · exact h.symm
            · rename_i hlt; rw [Array.getElem?_eq_none (by omega)]
          · rfl
    · rfl
  exact congrArg (fun x => ({ heap := x, tape := w.tape, drawn := w.drawn, os := w.os, output := w.output } : World)) this

theorem hid' {p : Prop} (h : p) : Hid p := h
/-! ### draws alone -/
def Dr (w w' : World) : Prop := ∃ n, w.drewN n = w'
theorem Dr.refl (w : World) : Dr w w := ⟨0, rfl⟩
theorem Dr.step {w w1 : World} {n : Nat} (h : Dr w w1) : Dr w (w1.drewN n) := by obtain ⟨m, rfl⟩ := h; exact ⟨m + n, (World.drewN_drewN _ _ _).symm⟩
theorem Dr.stepd {w w1 : World} (h : Dr w w1) : Dr w w1.drew := h.step (n := 1)
theorem Dr.mod {w w1 : World} {S : Nat → Prop} (h : Dr w w1) : Mod S w w1 := by obtain ⟨m, rfl⟩ := h; exact (Mod.refl S w).drewN m
theorem Dr.below {w w1 : World} (h : Dr w w1) : Below w.heap.size w w1 := (h.mod (S := fun _ => False)).below0

theorem quiet_gen {P : Program} {f : FuncId} {args : Array Value} {w0 w1 : World} {v : Value} (h : Calls P f args w1 fun e w' => e = .returned v ∧ Dr w1 w') (h0 : Dr w0 w1) :
    Calls P f args w1 fun e w'' => e = .returned v ∧ ∃ m, w'' = w0.drewN m :=
  h.mono fun _ _ ⟨he, m, hm⟩ => ⟨he, by obtain ⟨n, rfl⟩ := h0; exact ⟨n + m, by rw [← hm, World.drewN_drewN]⟩⟩
theorem quiet_same {P : Program} {f : FuncId} {args : Array Value} {w0 w1 : World} {v : Value} (h : Calls P f args w1 fun e w' => e = .returned v ∧ w1 = w') (h0 : Dr w0 w1) :
    Calls P f args w1 fun e w'' => e = .returned v ∧ ∃ m, w'' = w0.drewN m :=
  h.mono fun _ _ ⟨he, hm⟩ => ⟨he, by obtain ⟨n, rfl⟩ := h0; exact ⟨n, hm.symm⟩⟩
theorem Dr.trans {a b c : World} (h : Dr a b) (k : Dr b c) : Dr a c := by obtain ⟨n, rfl⟩ := h; obtain ⟨m, rfl⟩ := k; exact ⟨n + m, (World.drewN_drewN _ _ _).symm⟩

/-! ### endings -/
theorem ret_int {k : IntKind} {a b : Int} (h : a = b) : Ending.returned (.int k a) = .returned (.int k b) := by rw [h]
theorem ret_bool {a b : Bool} (h : a = b) : Ending.returned (.bool a) = .returned (.bool b) := by rw [h]

/-! ### whole numbers of 64 bits -/
def I64 (a : Int) : Prop := -9223372036854775808 ≤ a ∧ a ≤ 9223372036854775807
theorem I64.of_wf {a : Int} (h : (Lit.int .i64 a).wf = true) : I64 a := by
  unfold I64; simp [Lit.wf, IntKind.min, IntKind.max, IntKind.signed, IntKind.bits] at h; omega
def satAdd (a b : Int) : Int := if 9223372036854775807 < a + b then 9223372036854775807 else if a + b < -9223372036854775808 then -9223372036854775808 else a + b
def satSub (a b : Int) : Int := if 9223372036854775807 < a - b then 9223372036854775807 else if a - b < -9223372036854775808 then -9223372036854775808 else a - b
theorem I64.satAdd (a b : Int) : I64 (satAdd a b) := by unfold I64 Go.Proofs.YtockkjhciojgbaaGreatDoor.satAdd; split <;> (try split) <;> omega
theorem I64.satSub (a b : Int) : I64 (satSub a b) := by unfold I64 Go.Proofs.YtockkjhciojgbaaGreatDoor.satSub; split <;> (try split) <;> omega

/-! ### max and min of two whole numbers, as the walk is to write them -/
@[go_sem] theorem lib_max2_int (k k' : IntKind) (x y : Int) : Builtin.max2 (.int k x) (.int k' y) = pure (.int k (max x y)) := by
  simp only [Builtin.max2, gt_iff_lt]; congr 2; split <;> omega
@[go_sem] theorem lib_min2_int (k k' : IntKind) (x y : Int) : Builtin.min2 (.int k x) (.int k' y) = pure (.int k (min x y)) := by
  simp only [Builtin.min2]; congr 2; split <;> omega
@[go_sem] theorem lib_max_two (ats : Array TypeId) (ty : TypeId) (a b : Value) : Builtin.max_ ats ty #[a, b] = (Builtin.max2 a b >>= fun s => pure s) := by simp only [Builtin.max_, List.foldlM_cons, List.foldlM_nil]
@[go_sem] theorem lib_min_two (ats : Array TypeId) (ty : TypeId) (a b : Value) : Builtin.min_ ats ty #[a, b] = (Builtin.min2 a b >>= fun s => pure s) := by simp only [Builtin.min_, List.foldlM_cons, List.foldlM_nil]

/-! ### rows of cells that are read -/
def Rd (w : World) (A : Option Addr) (vs : List Value) : Prop := ∀ j u, vs[j]? = some u → ∃ ad, A = some ad ∧ w.cell? (ad.add j) = some u
theorem Rd.at_ {w : World} {A : Option Addr} {α : Type} {f : α → Value} {xs : List α} (h : Rd w A (xs.map f)) {j : Nat} (hj : j < xs.length) :
    ∃ ad x, A = some ad ∧ xs[j]? = some x ∧ w.cell? (ad.add j) = some (f x) := by
  obtain ⟨ad, e, hc⟩ := h j (f xs[j]) (by simp [List.getElem?_eq_getElem hj])
  exact ⟨ad, xs[j], e, List.getElem?_eq_getElem hj, hc⟩
theorem Rd.below {w w' : World} {A : Option Addr} {vs : List Value} (h : Rd w A vs) (hb : Below w.heap.size w w') : Rd w' A vs := fun j u hj => by
  obtain ⟨ad, e, hc⟩ := h j u hj
  exact ⟨ad, e, (hb.cell (World.block_lt_of_cell? w _ hc)).trans hc⟩
theorem Rd.mod {w w' : World} {A : Option Addr} {vs : List Value} {S : Nat → Prop} (h : Rd w A vs) (hb : Mod S w w') (hs : ∀ ad, A = some ad → ¬ S ad.block) : Rd w' A vs := fun j u hj => by
  obtain ⟨ad, e, hc⟩ := h j u hj
  have hbl : (ad.add j).block = ad.block := by unfold Addr.add; split <;> rfl
  exact ⟨ad, e, (World.cell?_of_block (w := w) (hb.block _ (World.block_lt_of_cell? w _ hc) (by rw [hbl]; exact hs ad e))).trans hc⟩
theorem Rd.take_map {w : World} {A : Option Addr} {α : Type} {f : α → Value} {xs : List α} (h : Rd w A (xs.map f)) (k : Nat) : Rd w A ((xs.take k).map f) := fun j u hj => by
  rw [List.getElem?_map, List.getElem?_take] at hj
  split at hj
  · exact h j u (by rw [List.getElem?_map]; exact hj)
  · simp at hj
theorem take_snoc' {α : Type} {xs : List α} {j : Nat} {x : α} (h : xs[j]? = some x) : xs.take (j + 1) = xs.take j ++ [x] := by
  rw [List.take_add_one, h]; rfl
theorem mem_of_get {α : Type} {xs : List α} {j : Nat} {x : α} (h : xs[j]? = some x) : x ∈ xs := List.mem_of_getElem? h

end Go.Proofs.YtockkjhciojgbaaGreatDoor
/- Own -/
/- Rows of cells that a call owns: what appending to one comes to, and how it is read. No condition. -/
namespace Go.Proofs.YtockkjhciojgbaaGreatDoor
set_option maxRecDepth 100000
set_option linter.unusedSimpArgs false
open Go.RowKit
set_option linter.unusedVariables false

section
variable {P : Program} {ops : Array Oper} {rest : List Oper} {o : Oper} {a : Act} {Q : Exit → Act → World → Prop}
/-- append(v, x): behind 'at_builtin'; the goal's world is 'W.alloc' of the variadic's box. -/
theorem ap_cells {W : World} (base : Nat) (hgd : o.guard = none) (s x : Operand) (t e : TypeId) (z : Value) (size bytes : Nat)
    (ho : o.op = .call { callee := .builtin .append, args := #[s, x], argTypes := #[t, t] })
    (ht : P.underlying t = some (.slice e)) (hinfo : (P.info? e).map (fun i => (i.zero, i.size, i.bytes)) = some (some z, size, bytes)) (hz : z.cells.size = size) (hs0 : 0 < size) (hb0 : 0 < bytes)
    (v : Value) (n : Nat) (xs ys : List Value) (hs : a.eval s = v) (hx : a.eval x = .slice (some ⟨W.heap.size, 0, none⟩) 1 1) (hys : ys.length = size) (h1 : ∀ u ∈ ys, u.oneCell' = true)
    (HO : W.ownsRow base e size v n xs) (hbase : base ≤ W.heap.size) (hl : (n + 1) * bytes ≤ 140737488355328)
    (h : ∀ v1 w1, w1.ownsRow base e size v1 (n + 1) (xs ++ ys) → W.grownBy w1 v.ownBlock → (v1.ownBlock = v.ownBlock ∨ ∃ b, v1.ownBlock = some b ∧ W.heap.size ≤ b) → wpList P ops Q rest (a.put o.dst v1) w1) :
    wpList P ops Q (o :: rest) a (W.alloc (.cells ys.toArray e)) := by
  obtain ⟨i0, hi, hzz⟩ := Option.map_eq_some_iff.1 hinfo
  simp only [Prod.mk.injEq] at hzz
  obtain ⟨hz0, hz1, hz2⟩ := hzz
  have hlen : n + 1 ≤ 140737488355328 := Nat.le_trans (Nat.le_mul_of_pos_right _ hb0) hl
  refine wpList_append_own_at (W.alloc (.cells ys.toArray e)) hgd s x t ho base e i0 z size bytes ht hi hz0 hz1 hz2 hz hs0 v n xs hs (HO.alloc _) ⟨W.heap.size, 0, none⟩ 1 1 ys hx (by rw [hys]; simp)
    (by simpa using World.news_of_block (cs := ys.toArray) (t := e) (fr := (0, 0)) (heap_alloc_new W (.cells ys.toArray e))) h1 (by simp only [maxLen]; omega) hl (by simp; omega) ?_
  intro v1 w1 hown hg _ hat
  refine h v1 w1 hown ((World.grownBy_alloc W _ _).trans hg) ?_
  rcases hat with hat | hat
  · exact .inl hat
  · exact .inr ⟨_, hat, by simp⟩
end

theorem mk0_run {P : Program} (t e : TypeId) (z : Value) (size bytes : Nat) (ht : P.underlying t = some (.slice e)) (hinfo : (P.info? e).map (fun i => (i.zero, i.size, i.bytes)) = some (some z, size, bytes)) (n : Nat) (hb : bytes * n ≤ 281474976710656) (hn : n ≤ 9223372036854775807) :
    ∀ w : World, (Instr.makeSlice t (.int .i64 0) (.int .i64 (n : Int))).run P w = .ok (.slice (some ⟨w.heap.size, 0, none⟩) 0 n) (w.alloc (.cells (madeCells z.cells (n * size)) e)) := by
  intro w
  obtain ⟨i0, hi, hzz⟩ := Option.map_eq_some_iff.1 hinfo
  simp only [Prod.mk.injEq] at hzz
  obtain ⟨hz0, rfl, rfl⟩ := hzz
  have hb2 : (i0.bytes : Int) * (n : Int) ≤ 281474976710656 := by
    have : (i0.bytes : Int) * (n : Int) = ((i0.bytes * n : Nat) : Int) := by simp
    omega
  have := run_make (P := P) w t e i0 z ht hi hz0 .i64 .i64 0 (n : Int) (by omega) (by omega) hb2 (by omega)
  simpa using this
theorem own_mk0 (w : World) (base : Nat) (e : TypeId) (zs : Array Value) (size n : Nat) (hb : base ≤ w.heap.size) (hn : n ≤ 9223372036854775807) :
    (w.alloc (.cells (madeCells zs (n * size)) e)).ownsRow base e size (.slice (some ⟨w.heap.size, 0, none⟩) 0 n) 0 [] := World.ownsRow_made w _ n hb (by unfold maxLen; exact hn) (size_madeCells _ _)
theorem mkn_run {P : Program} (t e : TypeId) (z : Value) (size bytes : Nat) (ht : P.underlying t = some (.slice e)) (hinfo : (P.info? e).map (fun i => (i.zero, i.size, i.bytes)) = some (some z, size, bytes)) (n : Nat) (hb : bytes * n ≤ 281474976710656) (hn : n ≤ 9223372036854775807) :
    ∀ w : World, (Instr.makeSlice t (.int .i64 (n : Int)) (.int .i64 (n : Int))).run P w = .ok (.slice (some ⟨w.heap.size, 0, none⟩) n n) (w.alloc (.cells (madeCells z.cells (n * size)) e)) := by
  intro w
  obtain ⟨i0, hi, hzz⟩ := Option.map_eq_some_iff.1 hinfo
  simp only [Prod.mk.injEq] at hzz
  obtain ⟨hz0, rfl, rfl⟩ := hzz
  have hb2 : (i0.bytes : Int) * (n : Int) ≤ 281474976710656 := by
    have : (i0.bytes : Int) * (n : Int) = ((i0.bytes * n : Nat) : Int) := by simp
    omega
  have := run_make (P := P) w t e i0 z ht hi hz0 .i64 .i64 (n : Int) (n : Int) (by omega) (by omega) hb2 (by omega)
  simpa using this
theorem mk1_run {P : Program} (t e : TypeId) (z : Value) (bytes : Nat) (ht : P.underlying t = some (.slice e)) (hinfo : (P.info? e).map (fun i => (i.zero, i.size, i.bytes)) = some (some z, 1, bytes)) (hz : z.cells = #[z]) (n : Nat) (hb : bytes * n ≤ 281474976710656) (hn : n ≤ 9223372036854775807) :
    ∀ w : World, (Instr.makeSlice t (.int .i64 (n : Int)) (.int .i64 (n : Int))).run P w = .ok (.slice (some ⟨w.heap.size, 0, none⟩) n n) (w.alloc (.cells (madeCells #[z] n) e)) := by
  intro w
  have := mkn_run t e z 1 bytes ht hinfo n hb hn w
  rwa [Nat.mul_one, hz] at this
/-! ### a block of one-cell elements, as a list -/
def BlkL {α : Type} (f : α → Value) (w : World) (b : Nat) (T : TypeId) (xs : List α) : Prop := Blk w b T (xs.map f).toArray
section
variable {α : Type} {f : α → Value} {w w' : World} {b : Nat} {T : TypeId} {xs : List α}
theorem BlkL.cell (h : BlkL f w b T xs) {k : Nat} {x : α} (hx : xs[k]? = some x) : w.cell? ⟨b, k, none⟩ = some (f x) := by
  rw [Blk.cell h, List.getElem?_toArray, List.getElem?_map, hx]; rfl
theorem BlkL.frozen (h : BlkL f w b T xs) (k : Nat) : w.frozen? ⟨b, k, none⟩ = false := Blk.frozen h k
theorem BlkL.lt (h : BlkL f w b T xs) : b < w.heap.size := Blk.lt h
theorem BlkL.mod {S : Nat → Prop} (h : BlkL f w b T xs) (m : Mod S w w') (hs : ¬ S b) : BlkL f w' b T xs := Blk.mod h m hs
theorem BlkL.below (h : BlkL f w b T xs) (m : Below w.heap.size w w') : BlkL f w' b T xs := Blk.below h m
theorem BlkL.alloc (h : BlkL f w b T xs) (o : Obj) : BlkL f (w.alloc o) b T xs := Blk.alloc h o
theorem BlkL.far (h : BlkL f w b T xs) {p : Addr} (hp : b ≠ p.block) (u : Value) : BlkL f (w.setCell p u) b T xs := Blk.far h hp u
theorem BlkL.set (h : BlkL f w b T xs) (k : Nat) (x : α) : BlkL f (w.setCell ⟨b, k, none⟩ (f x)) b T (xs.set k x) := by
  refine (Blk.set h k (f x)).cast ?_
  rw [List.setIfInBounds_toArray, List.map_set]
theorem BlkL.made (w : World) (T : TypeId) (z : α) (n : Nat) : BlkL f (w.alloc (.cells (madeCells #[f z] (n * 1)) T)) w.heap.size T (List.replicate n z) := by
  refine (Blk.new_ w T _).cast ?_
  apply Array.ext'
  rw [toList_madeCells_one, Nat.mul_one, List.map_replicate]
theorem BlkL.made' (w : World) (T : TypeId) (z : α) (n : Nat) : BlkL f (w.alloc (.cells (madeCells #[f z] n) T)) w.heap.size T (List.replicate n z) := by
  refine (Blk.new_ w T _).cast ?_
  apply Array.ext'
  rw [toList_madeCells_one, List.map_replicate]
end
theorem fill_get {α : Type} (a z : α) {k m : Nat} (h : k < m) : (List.replicate k a ++ List.replicate (m - k) z)[k]? = some z := by
  rw [List.getElem?_append_right (by simp), List.length_replicate, Nat.sub_self, List.getElem?_replicate, if_pos (by omega)]
theorem fill_set {α : Type} (a z : α) {k m : Nat} (h : k < m) : (List.replicate k a ++ List.replicate (m - k) z).set k a = List.replicate (k + 1) a ++ List.replicate (m - (k + 1)) z := by
  rw [List.set_append_right _ _ (by simp), List.length_replicate, Nat.sub_self, show m - k = (m - (k + 1)) + 1 by omega, List.replicate_succ, List.set_cons_zero, List.replicate_succ']
  simp
/-! ### a piece of a slice -/
def cutA (A : Option Addr) (lo sz c : Nat) : Option Addr := if c = lo then A else A.map (·.add (lo * sz))
theorem cut_lh {P : Program} (t e sz : Nat) (ht : P.underlying t = some (.slice e)) (hs0 : (P.info? e).map (·.size) = some sz) (A : Option Addr) (n c lo hi : Nat) (h1 : lo ≤ hi) (h2 : hi ≤ c) :
    ∀ W : World, (Instr.slice t (.slice A n c) (some (.int .i64 (lo : Int))) (some (.int .i64 (hi : Int))) none).run P W = .ok (.slice (cutA A lo sz c) (hi - lo) (c - lo)) W := by
  intro W
  obtain ⟨i, hi0, hs⟩ := Option.map_eq_some_iff.1 hs0
  have hel : P.elem t = e := by simp [Program.elem, ht]
  have hu : P.underlying t = some (.slice (P.elem t)) := by rw [hel]; exact ht
  rw [run_slice_lh W t A n c hu .i64 .i64 (lo : Int) (hi : Int) (Int.natCast_nonneg _) (by omega) (by omega), hel]
  simp [sizeOf, typeInfo, hi0, hs, sliced, Result.andThen, cutA]
theorem cut_l {P : Program} (t e sz : Nat) (ht : P.underlying t = some (.slice e)) (hs0 : (P.info? e).map (·.size) = some sz) (A : Option Addr) (n c lo : Nat) (h1 : lo ≤ n) :
    ∀ W : World, (Instr.slice t (.slice A n c) (some (.int .i64 (lo : Int))) none none).run P W = .ok (.slice (cutA A lo sz c) (n - lo) (c - lo)) W := by
  intro W
  obtain ⟨i, hi0, hs⟩ := Option.map_eq_some_iff.1 hs0
  have hel : P.elem t = e := by simp [Program.elem, ht]
  have hu : P.underlying t = some (.slice (P.elem t)) := by rw [hel]; exact ht
  rw [run_slice_l W t A n c hu .i64 (lo : Int) (Int.natCast_nonneg _) (by omega), hel]
  simp [sizeOf, typeInfo, hi0, hs, sliced, Result.andThen, cutA]
theorem cut_h {P : Program} (t e sz : Nat) (ht : P.underlying t = some (.slice e)) (hs0 : (P.info? e).map (·.size) = some sz) (A : Option Addr) (n c hi : Nat) (h2 : hi ≤ c) :
    ∀ W : World, (Instr.slice t (.slice A n c) none (some (.int .i64 (hi : Int))) none).run P W = .ok (.slice A hi c) W := by
  intro W
  obtain ⟨i, hi0, hs⟩ := Option.map_eq_some_iff.1 hs0
  have hel : P.elem t = e := by simp [Program.elem, ht]
  have hu : P.underlying t = some (.slice (P.elem t)) := by rw [hel]; exact ht
  rw [run_slice_h W t A n c hu .i64 (hi : Int) (Int.natCast_nonneg _) (by omega), hel]
  have ha : A.map (fun x : Addr => x.add 0) = A := by cases A <;> simp [Addr.add]
  simp [sizeOf, typeInfo, hi0, hs, sliced, Result.andThen, ha]
theorem add_add' (ad : Addr) (i j : Nat) : (ad.add i).add j = ad.add (i + j) := by
  unfold Addr.add
  by_cases hi : i = 0
  · subst hi; simp
  · by_cases hj : j = 0
    · subst hj; simp
    · simp [hi, hj, Nat.add_assoc]
theorem Rd.cut {w : World} {A : Option Addr} {vs : List Value} (h : Rd w A vs) (lo sz c k : Nat) (hk : c = lo → k = 0) : Rd w (cutA A lo sz c) ((vs.drop (lo * sz)).take k) := by
  intro j u hj
  rw [List.getElem?_take] at hj
  split at hj
  · rename_i hjk
    rw [List.getElem?_drop] at hj
    obtain ⟨ad, rfl, hc⟩ := h _ _ hj
    unfold cutA
    rw [if_neg (fun e => by have := hk e; omega)]
    exact ⟨ad.add (lo * sz), rfl, by rw [add_add']; exact hc⟩
  · cases hj

theorem own_nil' (W : World) (base : Nat) (e : TypeId) (size : Nat) : W.ownsRow base e size (.slice none 0 0) 0 [] := ⟨by simp, .inl ⟨rfl, rfl⟩⟩
theorem own_base' {w : World} {base : Nat} {e : TypeId} {size n : Nat} {v : Value} {xs : List Value} (h : w.ownsRow base e size v n xs) (k : Nat) (hk : v.ownBlock = some k) : base ≤ k := by
  rcases h.2 with ⟨rfl, _⟩ | ⟨g, cap, cur, rfl, hb, _⟩
  · simp [Value.ownBlock] at hk
  · simp [Value.ownBlock] at hk; omega
theorem own_lt' {w : World} {base : Nat} {e : TypeId} {size n : Nat} {v : Value} {xs : List Value} (h : w.ownsRow base e size v n xs) (k : Nat) (hk : v.ownBlock = some k) : k < w.heap.size := by
  rcases h.2 with ⟨rfl, _⟩ | ⟨g, cap, cur, rfl, hb, hh, _⟩
  · simp [Value.ownBlock] at hk
  · simp [Value.ownBlock] at hk; subst hk; exact (Array.getElem?_eq_some_iff.1 hh).1
theorem own_mod {w w1 : World} {S : Nat → Prop} {base : Nat} {e : TypeId} {size n : Nat} {v : Value} {xs : List Value} (h : w.ownsRow base e size v n xs) (hm : Mod S w w1) (hs : ∀ k, v.ownBlock = some k → ¬ S k) : w1.ownsRow base e size v n xs := by
  rcases h.2 with ⟨rfl, hn⟩ | ⟨g, cap, cur, rfl, hb, hh, h3⟩
  · exact ⟨h.1, .inl ⟨rfl, hn⟩⟩
  · exact ⟨h.1, .inr ⟨g, cap, cur, rfl, hb, (hm.block g (Array.getElem?_eq_some_iff.1 hh).1 (hs g rfl)).trans hh, h3⟩⟩
theorem own_below {w w1 : World} {base : Nat} {e : TypeId} {size n : Nat} {v : Value} {xs : List Value} (h : w.ownsRow base e size v n xs) (hm : Below w.heap.size w w1) : w1.ownsRow base e size v n xs :=
  own_mod h (Mod.of_below (S := fun _ => False) hm) (fun _ _ h => h)
theorem own_lower {w : World} {base base' : Nat} {e : TypeId} {size n : Nat} {v : Value} {xs : List Value} (h : w.ownsRow base e size v n xs) (hb : base' ≤ base) : w.ownsRow base' e size v n xs := by
  rcases h.2 with hn | ⟨g, cap, cur, hv, hb', h3⟩
  · exact ⟨h.1, .inl hn⟩
  · exact ⟨h.1, .inr ⟨g, cap, cur, hv, Nat.le_trans hb hb', h3⟩⟩
theorem own_rd {w : World} {base : Nat} {e : TypeId} {size n : Nat} {v : Value} {xs : List Value} (h : w.ownsRow base e size v n xs) : ∃ A c, v = .slice A n c ∧ n ≤ c ∧ c ≤ maxLen ∧ Rd w A xs := by
  rcases h.2 with ⟨rfl, rfl⟩ | ⟨g, cap, cur, rfl, hb, hh, h1, h2, h3, h4⟩
  · have h1 := h.1
    rw [Nat.zero_mul] at h1
    have : xs = [] := List.eq_nil_of_length_eq_zero h1
    subst this
    exact ⟨none, 0, rfl, Nat.le_refl _, by unfold maxLen; omega, fun j u hj => by simp at hj⟩
  · refine ⟨_, cap, rfl, h1, h2, fun j u hj => ⟨_, rfl, ?_⟩⟩
    have ha : (⟨g, 0, none⟩ : Addr).add j = ⟨g, j, none⟩ := by unfold Addr.add; split <;> simp_all
    rw [ha]
    simp only [World.cell?, hh]
    rw [← h4, List.getElem?_take] at hj
    split at hj
    · simpa using hj
    · cases hj
theorem Blk.rd {w : World} {g : Nat} {t : TypeId} {cs : Array Value} (h : Blk w g t cs) {xs : List Value} (hx : cs.toList = xs) : Rd w (some ⟨g, 0, none⟩) xs := fun j u hj => ⟨_, rfl, by
    have ha : (⟨g, 0, none⟩ : Addr).add j = ⟨g, j, none⟩ := by unfold Addr.add; split <;> simp_all
    subst hx
    rw [ha, h.cell]; simpa using hj⟩
theorem own_ne' {w : World} {base : Nat} {e t : TypeId} {size n g : Nat} {v : Value} {xs : List Value} {cs : Array Value} (h : w.ownsRow base e size v n xs) (hg : Blk w g t cs) (hne : e ≠ t) : v.ownBlock ≠ some g := by
  rcases h.2 with ⟨rfl, _⟩ | ⟨g', cap, cur, rfl, _, hh, _⟩
  · simp [Value.ownBlock]
  · intro hk
    simp [Value.ownBlock] at hk
    subst hk
    unfold Blk at hg
    rw [hg] at hh
    injection hh with hh; injection hh with _ hh _
    exact hne hh.symm
theorem own_set' {w : World} {base : Nat} {e : TypeId} {size n : Nat} {v : Value} {xs : List Value} (h : w.ownsRow base e size v n xs) {p : Addr} (hp : v.ownBlock ≠ some p.block) (u : Value) : (w.setCell p u).ownsRow base e size v n xs :=
  own_mod h ((Mod.refl (fun k => k = p.block) w).setCell (fun _ => rfl) u) (fun k hk e => hp (e ▸ hk))
end Go.Proofs.YtockkjhciojgbaaGreatDoor
/- OwnC -/
/- A row of one-cell elements that a call owns, told cell by cell (a row that came out of a text is one, too): appending to it, reading it as a text. No condition. -/
namespace Go.Proofs.YtockkjhciojgbaaGreatDoor
set_option maxRecDepth 100000
set_option linter.unusedSimpArgs false
open Go.RowKit
set_option linter.unusedVariables false
set_option linter.unusedSimpArgs false

def OwnC (w : World) (base : Nat) (v : Value) (n : Nat) (xs : List Value) : Prop :=
  xs.length = n ∧ n ≤ maxLen ∧ ((v = .slice none 0 0 ∧ n = 0) ∨ ∃ g cap, v = .slice (some ⟨g, 0, none⟩) n cap ∧ base ≤ g ∧ g < w.heap.size ∧ n ≤ cap ∧ (∀ j u, xs[j]? = some u → w.cell? ⟨g, j, none⟩ = some u) ∧
    ∀ j, n ≤ j → j < cap → (w.cell? ⟨g, j, none⟩).isSome = true ∧ w.frozen? ⟨g, j, none⟩ = false)
theorem OwnC.nil (w : World) (base : Nat) : OwnC w base (.slice none 0 0) 0 [] := ⟨rfl, by unfold maxLen; omega, .inl ⟨rfl, rfl⟩⟩
theorem OwnC.of_own {w : World} {base n : Nat} {e : TypeId} {v : Value} {xs : List Value} (h : w.ownsRow base e 1 v n xs) : OwnC w base v n xs := by
  have hl := h.1
  rw [Nat.mul_one] at hl
  rcases h.2 with ⟨rfl, rfl⟩ | ⟨g, cap, cur, rfl, hb, hh, h1, h2, h3, h4⟩
  · exact ⟨hl, by unfold maxLen; omega, .inl ⟨rfl, rfl⟩⟩
  · have hB : Blk w g e cur := hh
    refine ⟨hl, Nat.le_trans h1 h2, .inr ⟨g, cap, rfl, hb, hB.lt, h1, fun j u hj => ?_, fun j hj hc => ⟨?_, hB.frozen j⟩⟩⟩
    · rw [hB.cell]
      rw [← h4, List.getElem?_take] at hj
      split at hj
      · simpa using hj
      · cases hj
    · rw [hB.cell, Array.getElem?_eq_getElem (by rw [h3]; omega)]; rfl
theorem OwnC.len {w : World} {base n : Nat} {v : Value} {xs : List Value} (h : OwnC w base v n xs) : xs.length = n := h.1
theorem OwnC.lower {w : World} {base base' n : Nat} {v : Value} {xs : List Value} (h : OwnC w base v n xs) (hb : base' ≤ base) : OwnC w base' v n xs := by
  obtain ⟨h0, hm, h⟩ := h
  rcases h with h | ⟨g, cap, hv, hg, h⟩
  · exact ⟨h0, hm, .inl h⟩
  · exact ⟨h0, hm, .inr ⟨g, cap, hv, by omega, h⟩⟩
theorem OwnC.base {w : World} {base n : Nat} {v : Value} {xs : List Value} (h : OwnC w base v n xs) (k : Nat) (hk : v.ownBlock = some k) : base ≤ k ∧ k < w.heap.size := by
  rcases h.2.2 with ⟨rfl, _⟩ | ⟨g, cap, rfl, hb, hl, _⟩
  · simp [Value.ownBlock] at hk
  · simp [Value.ownBlock] at hk; subst hk; exact ⟨hb, hl⟩
theorem OwnC.mod {w w1 : World} {S : Nat → Prop} {base n : Nat} {v : Value} {xs : List Value} (h : OwnC w base v n xs) (hm : Mod S w w1) (hs : ∀ k, v.ownBlock = some k → ¬ S k) : OwnC w1 base v n xs := by
  obtain ⟨h0, hml, h⟩ := h
  rcases h with h | ⟨g, cap, rfl, hb, hl, hn, hc, hf⟩
  · exact ⟨h0, hml, .inl h⟩
  · have hbl := hm.block g hl (hs g rfl)
    refine ⟨h0, hml, .inr ⟨g, cap, rfl, hb, Nat.lt_of_lt_of_le hl hm.size, hn, fun j u hj => (World.cell?_of_block (w := w) (w' := w1) (a := ⟨g, j, none⟩) hbl).trans (hc j u hj), fun j h1 h2 => ?_⟩⟩
    have e1 := World.cell?_of_block (w := w) (w' := w1) (a := ⟨g, j, none⟩) hbl
    have e2 := World.frozen?_of_block (w := w) (w' := w1) (a := ⟨g, j, none⟩) hbl
    rw [e1, e2]; exact hf j h1 h2
theorem OwnC.below {w w1 : World} {base n : Nat} {v : Value} {xs : List Value} (h : OwnC w base v n xs) (hm : Below w.heap.size w w1) : OwnC w1 base v n xs :=
  h.mod (Mod.of_below (S := fun _ => False) hm) (fun _ _ h => h)
theorem OwnC.rd {w : World} {base n : Nat} {v : Value} {xs : List Value} (h : OwnC w base v n xs) : ∃ A c, v = .slice A n c ∧ n ≤ c ∧ Rd w A xs := by
  rcases h.2.2 with ⟨rfl, rfl⟩ | ⟨g, cap, rfl, hb, hl, hn, hc, hf⟩
  · have h1 := h.1
    have : xs = [] := List.eq_nil_of_length_eq_zero h1
    subst this
    exact ⟨none, 0, rfl, Nat.le_refl _, fun j u hj => by simp at hj⟩
  · refine ⟨_, cap, rfl, hn, fun j u hj => ⟨_, rfl, ?_⟩⟩
    have ha : (⟨g, 0, none⟩ : Addr).add j = ⟨g, j, none⟩ := by unfold Addr.add; split <;> simp_all
    rw [ha]; exact hc j u hj

section
variable {P : Program} {ops : Array Oper} {rest : List Oper} {o : Oper} {a : Act} {Q : Exit → Act → World → Prop}
/-- append(v, y): behind 'at_builtin'; the goal's world is 'W.alloc' of the variadic's box. -/
theorem ap_c {W : World} (base : Nat) (hgd : o.guard = none) (s x : Operand) (t e : TypeId) (z : Value) (bytes : Nat)
    (ho : o.op = .call { callee := .builtin .append, args := #[s, x], argTypes := #[t, t] })
    (ht : P.underlying t = some (.slice e)) (hinfo : (P.info? e).map (fun i => (i.zero, i.size, i.bytes)) = some (some z, 1, bytes)) (hz : z.cells.size = 1) (hb0 : 0 < bytes)
    (v : Value) (n : Nat) (xs : List Value) (y : Value) (hs : a.eval s = v) (hx : a.eval x = .slice (some ⟨W.heap.size, 0, none⟩) 1 1) (h1 : y.oneCell' = true)
    (HO : OwnC W base v n xs) (hbase : base ≤ W.heap.size) (hl : (n + 1) * bytes ≤ 140737488355328)
    (h : ∀ v1 w1, OwnC w1 base v1 (n + 1) (xs ++ [y]) → W.grownBy w1 v.ownBlock → (v1.ownBlock = v.ownBlock ∨ ∃ b, v1.ownBlock = some b ∧ W.heap.size ≤ b) → wpList P ops Q rest (a.put o.dst v1) w1) :
    wpList P ops Q (o :: rest) a (W.alloc (.cells #[y] e)) := by
  obtain ⟨i0, hi, hzz⟩ := Option.map_eq_some_iff.1 hinfo
  simp only [Prod.mk.injEq] at hzz
  obtain ⟨hz0, hz1, hz2⟩ := hzz
  have hlen : n + 1 ≤ 140737488355328 := Nat.le_trans (Nat.le_mul_of_pos_right _ hb0) hl
  have hml : n + 1 ≤ maxLen := by unfold maxLen; omega
  have hnew : ∀ j u, [y][j]? = some u → (W.alloc (.cells #[y] e)).cell? ((⟨W.heap.size, 0, none⟩ : Addr).add j) = some u :=
    World.news_of_block (cs := #[y]) (t := e) (fr := (0, 0)) (heap_alloc_new W (.cells #[y] e))
  obtain ⟨h0, _, HO⟩ := HO
  rcases HO with ⟨rfl, rfl⟩ | ⟨g, cap, rfl, hb, hlg, hn, hc, hf⟩
  · have hx0 : xs = [] := List.eq_nil_of_length_eq_zero h0
    subst hx0
    refine ap_cells base hgd s x t e z 1 bytes ho ht hinfo hz (by omega) hb0 (.slice none 0 0) 0 [] [y] hs hx rfl (List.forall_mem_singleton.2 h1) (own_nil' W base e 1) hbase hl ?_
    intro v1 w1 ho1 hg1 hat1
    exact h v1 w1 (OwnC.of_own ho1) hg1 hat1
  · have hcell : ∀ a : Addr, a.block = g → (W.alloc (.cells #[y] e)).cell? a = W.cell? a := fun a ha => World.cell?_alloc_lt _ _ _ (by rw [ha]; exact hlg)
    have hfro : ∀ a : Addr, a.block = g → (W.alloc (.cells #[y] e)).frozen? a = W.frozen? a := fun a ha => World.frozen?_alloc_old _ _ _ (by rw [ha]; omega)
    refine wpList_append_arg (W.alloc (.cells #[y] e)) hgd s x t ho e i0 z 1 bytes ht hi hz0 hz1 hz2 hz (by omega) g 0 n cap xs hs (by omega) (fun j u hj => ?_) ⟨W.heap.size, 0, none⟩ 1 1 [y] hx rfl hnew (List.forall_mem_singleton.2 h1) ?_ hml hl ?_ ?_
    · rw [hcell _ rfl, Nat.zero_add]; exact hc j u hj
    · intro hr j hj
      have hj0 : j = 0 := by simpa using hj
      subst hj0
      rw [hcell _ rfl, hfro _ rfl]
      have := hf n (Nat.le_refl _) (by omega)
      simpa using this
    · intro hr
      have hsc : (W.alloc (.cells #[y] e)).setCells g (0 + n * 1) [y] = (W.alloc (.cells #[y] e)).setCell ⟨g, n, none⟩ y := by simp [World.setCells]
      rw [hsc]
      have hg : W.grownBy ((W.alloc (.cells #[y] e)).setCell ⟨g, n, none⟩ y) (some g) :=
        ⟨rfl, rfl, rfl, by simp, fun k hk hne => (Below.heap_setCell _ _ _ _ (fun e => hne (by rw [e]))).trans (Below.heap_alloc _ _ _ hk)⟩
      refine h _ _ ⟨by simp [h0], hml, .inr ⟨g, cap, rfl, hb, by simp; omega, hr, fun j u hj => ?_, fun j hj1 hj2 => ?_⟩⟩ hg (.inl rfl)
      · by_cases hjn : j < xs.length
        · rw [List.getElem?_append_left hjn] at hj
          rw [World.cell?_setCell_other _ _ _ _ (by intro e; injection e with _ e _; omega), hcell _ rfl]
          exact hc j u hj
        · have hjl := (List.getElem?_eq_some_iff.1 hj).1
          simp at hjl
          have hjn' : j = n := by omega
          subst hjn'
          rw [List.getElem?_append_right (by omega), h0, Nat.sub_self] at hj
          simp at hj
          subst hj
          obtain ⟨q, hq⟩ := Option.isSome_iff_exists.1 (hf j (Nat.le_refl _) (by omega)).1
          exact World.cell?_setCell_same _ _ _ (u := q) (by rw [hcell _ rfl]; exact hq)
      · rw [World.cell?_setCell_other _ _ _ _ (by intro e; injection e with _ e _; omega), World.frozen?_setCell, hcell _ rfl, hfro _ rfl]
        exact hf j (by omega) hj2
    · intro hr v' w' ho1 hg1
      have hsz : W.heap.size ≤ (W.alloc (.cells #[y] e)).heap.size := by simp
      refine h v' w' (OwnC.of_own (own_lower ho1 (by simp; omega))) ?_ ?_
      · exact ⟨hg1.os, hg1.tape, hg1.output, Nat.le_trans hsz hg1.size, fun k hk hne => (hg1.block k (by simp; omega) (by simp)).trans (Below.heap_alloc _ _ _ hk)⟩
      · rcases ho1.2 with ⟨rfl, hz⟩ | ⟨g', cap', cur', rfl, hb', _⟩
        · omega
        · exact .inr ⟨g', rfl, by simp at hb'; omega⟩
end

/-! ### texts -/
def bcell (b : UInt8) : Value := .int .u8 (b.toNat : Int)
def strOf (l : List UInt8) : ByteArray := ⟨l.toArray⟩
theorem OwnC.string {P : Program} {w : World} {base n : Nat} {v : Value} {l : List UInt8} (src dst e : TypeId) (hs : P.underlying src = some (.slice e)) (he : P.underlying e = some (.int .u8)) (hd : P.underlying dst = some .string)
    (h : OwnC w base v n (l.map bcell)) : (convert src dst v).run P w = .ok (.string (strOf l)) w := by
  have hl : l.length = n := by simpa using h.1
  have hstr : strOfNums (l.map fun b => (b.toNat : Int)) = strOf l := by
    unfold strOfNums strOf
    rw [List.map_map]
    congr 2
    conv => rhs; rw [← List.map_id l]
    apply List.map_congr_left
    intro b _
    simp
  rcases h.2.2 with ⟨rfl, rfl⟩ | ⟨g, cap, rfl, hb, hlg, hn, hc, hf⟩
  · have : l = [] := List.eq_nil_of_length_eq_zero hl
    subst this
    exact run_convert_bytes_nil w src e hs he 0 0 dst hd
  · rw [← hstr]
    refine run_convert_bytes_arg w src e hs he g 0 n cap (l.map fun b => (b.toNat : Int)) (by simpa using hl) (fun i hi => ?_) dst hd
    rw [Nat.zero_add]
    have := hc i (bcell l[i]) (by simp [List.getElem?_eq_getElem (show i < l.length by omega)])
    rw [this]
    simp [bcell, List.getD_eq_getElem?_getD, List.getElem?_eq_getElem (show i < l.length by omega)]
/-- '[]byte(s)'. -/
theorem OwnC.bytes (w : World) (e : TypeId) (s : ByteArray) (hs : s.size ≤ maxLen) : OwnC (Lib.bytesWorld w e s) w.heap.size (.slice (some ⟨w.heap.size, 0, none⟩) s.size (grownCap w s.size 0 e)) s.size (s.data.toList.map bcell) := by
  have hge := grownCap_ge w s.size 0 e
  have hnew := Lib.bytesWorld_at_new w e s
  have hcs : (Lib.bytesCells w e s).size = grownCap w s.size 0 e := by
    unfold Lib.bytesCells
    rw [Array.size_append, Array.size_map, Array.size_replicate]
    have : s.data.size = s.size := rfl
    omega
  refine ⟨by simp, hs, .inr ⟨w.heap.size, _, rfl, Nat.le_refl _, by rw [Lib.bytesWorld_size]; omega, hge, fun j u hj => ?_, fun j h1 h2 => ⟨?_, ?_⟩⟩⟩
  · have hjl := (List.getElem?_eq_some_iff.1 hj).1
    rw [List.length_map, Array.length_toList] at hjl
    have hjs : j < s.size := hjl
    rw [Lib.bytesWorld_cell w e s j hjs]
    rw [List.getElem?_map, List.getElem?_eq_getElem (by rw [Array.length_toList]; exact hjl)] at hj
    simp only [Option.map_some, Option.some.injEq] at hj
    rw [← hj]
    simp [bcell, List.getD_eq_getElem?_getD, List.getElem?_eq_getElem, hjl]
    rw [Array.getElem?_eq_getElem hjl]; rfl
  · simp only [World.cell?, hnew]
    simp [hcs]; omega
  · simp only [World.frozen?, hnew]
    simp; omega
theorem bytesWorld_below (w : World) (e : TypeId) (s : ByteArray) : Below w.heap.size w (Lib.bytesWorld w e s) :=
  ⟨rfl, rfl, rfl, by rw [Lib.bytesWorld_size]; omega, fun k hk => Lib.bytesWorld_at_old w e s k hk⟩
end Go.Proofs.YtockkjhciojgbaaGreatDoor
/- Sat -/
/- What the functions of sat and of its reference answer. No condition. -/
namespace Go.Proofs.YtockkjhciojgbaaGreatDoor
set_option maxRecDepth 100000
set_option linter.unusedSimpArgs false
open Go.RowKit
set_option linter.unusedVariables false

theorem sat_Add (a b : Int) (w : World) (ha : I64 a) (hb : I64 b) :
    Calls Tryz.prog 130 #[.int .i64 a, .int .i64 b] w fun e w' => e = .returned (.int .i64 (satAdd a b)) ∧ w = w' := by
  obtain ⟨ha1, ha2⟩ := ha
  obtain ⟨hb1, hb2⟩ := hb
  go_enter Tryz.func130, Tryz.ntmps130
  go_wp2
  all_goals (go_ret; exact ⟨ret_int (by unfold satAdd; unfold wrap64 at *; split <;> (try split) <;> omega), rfl⟩)
theorem sat_Sub (a b : Int) (w : World) (ha : I64 a) (hb : I64 b) :
    Calls Tryz.prog 211 #[.int .i64 a, .int .i64 b] w fun e w' => e = .returned (.int .i64 (satSub a b)) ∧ w = w' := by
  obtain ⟨ha1, ha2⟩ := ha
  obtain ⟨hb1, hb2⟩ := hb
  go_enter Tryz.func211, Tryz.ntmps211
  go_wp2
  all_goals (go_ret; exact ⟨ret_int (by unfold satSub; unfold wrap64 at *; split <;> (try split) <;> omega), rfl⟩)
theorem foldl_I64 (xs : List Int) : ∀ a, I64 a → I64 (xs.foldl satAdd a) := by
  induction xs with
  | nil => intro a h; exact h
  | cons x xs ih => intro a h; exact ih _ (I64.satAdd _ _)
end Go.Proofs.YtockkjhciojgbaaGreatDoor
