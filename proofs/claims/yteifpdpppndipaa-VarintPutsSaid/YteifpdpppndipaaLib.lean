
/- Facts on worlds that my walks share: which blocks a call may have changed, a block known whole, numbers of 64 bits. No condition. -/
import Derived.WalkKit
import Derived.Deep.Draws
import Derived.Deep.QuietTactic
namespace Go.Proofs.Yteifpdpppndipaa
set_option maxRecDepth 100000
set_option linter.unusedSimpArgs false
open Go.RowKit

/-! ### which blocks may have changed -/
structure Mod (S : Nat → Prop) (w w' : World) : Prop where
  os : w'.os = w.os
  tape : w'.tape = w.tape
  output : w'.output = w.output
  size : w.heap.size ≤ w'.heap.size
  block : ∀ k, k < w.heap.size → ¬ S k → w'.heap[k]? = w.heap[k]?

theorem Mod.refl (S : Nat → Prop) (w : World) : Mod S w w := ⟨rfl, rfl, rfl, Nat.le_refl _, fun _ _ _ => rfl⟩
theorem Mod.then_ {S T : Nat → Prop} {a b c : World} (h : Mod S a b) (k : Mod T b c) (hs : ∀ i, i < a.heap.size → T i → S i) : Mod S a c :=
  ⟨k.os.trans h.os, k.tape.trans h.tape, k.output.trans h.output, Nat.le_trans h.size k.size,
    fun i hi hn => (k.block i (Nat.lt_of_lt_of_le hi h.size) (fun ht => hn (hs i hi ht))).trans (h.block i hi hn)⟩
theorem Mod.trans {S : Nat → Prop} {a b c : World} (h : Mod S a b) (k : Mod S b c) : Mod S a c := h.then_ k (fun _ _ h => h)
theorem Mod.mono {S T : Nat → Prop} {a b : World} (h : Mod S a b) (hs : ∀ i, i < a.heap.size → S i → T i) : Mod T a b :=
  ⟨h.os, h.tape, h.output, h.size, fun i hi hn => h.block i hi (fun ht => hn (hs i hi ht))⟩
theorem Mod.of_below {S : Nat → Prop} {a b : World} (h : Below a.heap.size a b) : Mod S a b := ⟨h.os, h.tape, h.output, h.size, fun i hi _ => h.block i hi⟩
theorem Mod.below {a b : World} {S : Nat → Prop} (h : Mod S a b) (hs : ∀ i, i < a.heap.size → ¬ S i) : Below a.heap.size a b := ⟨h.os, h.tape, h.output, h.size, fun i hi => h.block i hi (hs i hi)⟩
theorem Mod.below0 {a b : World} (h : Mod (fun _ => False) a b) : Below a.heap.size a b := h.below fun _ _ h => h
theorem Mod.of_grown {a b : World} {row : Option Nat} (h : a.grownBy b row) : Mod (fun k => row = some k) a b :=
  ⟨h.os, h.tape, h.output, h.size, fun i hi hn => h.block i hi (fun e => hn e.symm)⟩
theorem Mod.alloc {S : Nat → Prop} {a b : World} (h : Mod S a b) (o : Obj) : Mod S a (b.alloc o) :=
  h.trans ⟨rfl, rfl, rfl, by simp, fun k hk _ => Below.heap_alloc _ _ _ hk⟩
theorem Mod.setCell {S : Nat → Prop} {a b : World} (h : Mod S a b) {p : Addr} (hp : p.block < a.heap.size → S p.block) (u : Value) : Mod S a (b.setCell p u) :=
  ⟨h.os, h.tape, h.output, by simpa using h.size, fun k hk hn => (Below.heap_setCell _ _ _ _ (fun e => hn (by subst e; exact hp hk))).trans (h.block k hk hn)⟩
theorem Mod.drew {S : Nat → Prop} {a b : World} (h : Mod S a b) : Mod S a b.drew := ⟨h.os, h.tape, h.output, h.size, h.block⟩
theorem Mod.drewN {S : Nat → Prop} {a b : World} (h : Mod S a b) (n : Nat) : Mod S a (b.drewN n) := ⟨h.os, h.tape, h.output, h.size, h.block⟩
theorem Mod.grown {S : Nat → Prop} {a b c : World} {row : Option Nat} (h : Mod S a b) (k : b.grownBy c row) (hr : ∀ i, i < a.heap.size → row = some i → S i) : Mod S a c :=
  h.then_ (Mod.of_grown k) hr

theorem bel_refl (w : World) : Below w.heap.size w w := Below.refl _ _
theorem bel_alloc {w W : World} (h : Below w.heap.size w W) (o : Obj) : Below w.heap.size w (W.alloc o) := h.alloc h.size o
theorem bel_drew {w W : World} (h : Below w.heap.size w W) : Below w.heap.size w W.drew := ⟨h.os, h.tape, h.output, h.size, h.block⟩
theorem bel_drewN {w W : World} (h : Below w.heap.size w W) (n : Nat) : Below w.heap.size w (W.drewN n) := ⟨h.os, h.tape, h.output, h.size, h.block⟩
theorem bel_then {w w1 w2 : World} (h : Below w.heap.size w w1) (k : Below w1.heap.size w1 w2) : Below w.heap.size w w2 := h.trans (k.mono h.size)
theorem bel_mod {w w1 w2 : World} {S : Nat → Prop} (h : Below w.heap.size w w1) (k : Mod S w1 w2) (hs : ∀ i, i < w.heap.size → ¬ S i) : Below w.heap.size w w2 :=
  ⟨k.os.trans h.os, k.tape.trans h.tape, k.output.trans h.output, Nat.le_trans h.size k.size, fun i hi => (k.block i (Nat.lt_of_lt_of_le hi h.size) (hs i hi)).trans (h.block i hi)⟩
theorem bel_set {w W : World} (h : Below w.heap.size w W) {p : Addr} (hp : w.heap.size ≤ p.block) (u : Value) : Below w.heap.size w (W.setCell p u) := h.setCell hp u

theorem Mod.cell {S : Nat → Prop} {a b : World} (h : Mod S a b) {p : Addr} {v : Value} (hc : a.cell? p = some v) (hs : ¬ S p.block) : b.cell? p = some v :=
  (World.cell?_of_block (w := a) (h.block p.block (World.block_lt_of_cell? a p hc) hs)).trans hc
/-! ### a block known whole -/
def Blk (w : World) (g : Nat) (t : TypeId) (cs : Array Value) : Prop := w.heap[g]? = some (.cells cs t (0, 0))

theorem Blk.lt {w : World} {g : Nat} {t : TypeId} {cs : Array Value} (h : Blk w g t cs) : g < w.heap.size := (Array.getElem?_eq_some_iff.1 h).1
theorem Blk.mod {w w' : World} {g : Nat} {t : TypeId} {cs : Array Value} {S : Nat → Prop} (h : Blk w g t cs) (m : Mod S w w') (hs : ¬ S g) : Blk w' g t cs :=
  (m.block g h.lt hs).trans h
theorem Blk.below {w w' : World} {g : Nat} {t : TypeId} {cs : Array Value} (h : Blk w g t cs) (m : Below w.heap.size w w') : Blk w' g t cs := (m.block g h.lt).trans h
theorem Blk.cell {w : World} {g : Nat} {t : TypeId} {cs : Array Value} (h : Blk w g t cs) (i : Nat) : w.cell? ⟨g, i, none⟩ = cs[i]? := by
  unfold Blk at h; simp [World.cell?, h]
theorem Blk.frozen {w : World} {g : Nat} {t : TypeId} {cs : Array Value} (h : Blk w g t cs) (i : Nat) : w.frozen? ⟨g, i, none⟩ = false := by
  unfold Blk at h; simp [World.frozen?, h]
theorem Blk.shape {w : World} {g : Nat} {t : TypeId} {cs : Array Value} (h : Blk w g t cs) : w.shape? g = some (t, cs.size) := by
  unfold Blk at h; simp [World.shape?, h]
theorem Blk.set {w : World} {g : Nat} {t : TypeId} {cs : Array Value} (h : Blk w g t cs) (i : Nat) (u : Value) : Blk (w.setCell ⟨g, i, none⟩ u) g t (cs.setIfInBounds i u) := by
  unfold Blk at *
  simp only [World.setCell, Array.getElem?_modify, if_true, h, Option.map_some]; rfl
theorem Blk.far {w : World} {g : Nat} {t : TypeId} {cs : Array Value} (h : Blk w g t cs) {p : Addr} (hp : g ≠ p.block) (u : Value) : Blk (w.setCell p u) g t cs :=
  (Below.heap_setCell w p u g hp).trans h
theorem Blk.alloc {w : World} {g : Nat} {t : TypeId} {cs : Array Value} (h : Blk w g t cs) (o : Obj) : Blk (w.alloc o) g t cs := (Below.heap_alloc w o g h.lt).trans h
theorem Blk.drew {w : World} {g : Nat} {t : TypeId} {cs : Array Value} (h : Blk w g t cs) : Blk w.drew g t cs := h
theorem Blk.drewN {w : World} {g : Nat} {t : TypeId} {cs : Array Value} (h : Blk w g t cs) (n : Nat) : Blk (w.drewN n) g t cs := h
theorem Blk.new_ (w : World) (t : TypeId) (cs : Array Value) : Blk (w.alloc (.cells cs t)) w.heap.size t cs := by
  unfold Blk; exact heap_alloc_new w _
theorem Blk.cast {w : World} {g : Nat} {t : TypeId} {cs cs' : Array Value} (h : Blk w g t cs) (e : cs = cs') : Blk w g t cs' := e ▸ h
theorem Blk.ne {w : World} {g g' : Nat} {t t' : TypeId} {cs cs' : Array Value} (h : Blk w g t cs) (h' : Blk w g' t' cs') (hne : t ≠ t') : g ≠ g' := by
  rintro rfl; unfold Blk at h h'; rw [h] at h'; injection h' with h'; injection h' with _ h' _; exact hne h'

/-- a store of what a cell holds already -/
theorem setCell_self {w : World} {a : Addr} {v : Value} (h : w.cell? a = some v) : w.setCell a v = w := by
  unfold World.setCell
  unfold World.cell? at h
  have : w.heap.modify a.block (fun
      | .cells c elem frozen => .cells (if a.spot.isSome then c else c.setIfInBounds a.off v) elem frozen
      | o => o) = w.heap := by
    apply Array.ext_getElem?
    intro i
    rw [Array.getElem?_modify]
    split
    · rename_i e; subst e
      cases hb : w.heap[a.block]? with
      | none => simp
      | some o =>
        cases o <;> simp only [Option.map_some]
        rename_i c t f
        simp only [hb] at h
        split at h
        · cases h
        · rename_i hsp
          rw [if_neg hsp]
          congr 2
          apply Array.ext_getElem?
          intro j
          rw [Array.getElem?_setIfInBounds]
          split
          · rename_i e; subst e; split
            · exact h.symm
            · rename_i hlt; rw [Array.getElem?_eq_none (by omega)]
          · rfl
    · rfl
  exact congrArg (fun x => ({ heap := x, tape := w.tape, drawn := w.drawn, os := w.os, output := w.output } : World)) this

theorem hid' {p : Prop} (h : p) : Hid p := h
/-! ### draws alone -/
def Dr (w w' : World) : Prop := ∃ n, w.drewN n = w'
theorem Dr.refl (w : World) : Dr w w := ⟨0, rfl⟩
theorem Dr.step {w w1 : World} {n : Nat} (h : Dr w w1) : Dr w (w1.drewN n) := by obtain ⟨m, rfl⟩ := h; exact ⟨m + n, (World.drewN_drewN _ _ _).symm⟩
theorem Dr.stepd {w w1 : World} (h : Dr w w1) : Dr w w1.drew := h.step (n := 1)
theorem Dr.mod {w w1 : World} {S : Nat → Prop} (h : Dr w w1) : Mod S w w1 := by obtain ⟨m, rfl⟩ := h; exact (Mod.refl S w).drewN m
theorem Dr.below {w w1 : World} (h : Dr w w1) : Below w.heap.size w w1 := (h.mod (S := fun _ => False)).below0

theorem quiet_gen {P : Program} {f : FuncId} {args : Array Value} {w0 w1 : World} {v : Value} (h : Calls P f args w1 fun e w' => e = .returned v ∧ Dr w1 w') (h0 : Dr w0 w1) :
    Calls P f args w1 fun e w'' => e = .returned v ∧ ∃ m, w'' = w0.drewN m :=
  h.mono fun _ _ ⟨he, m, hm⟩ => ⟨he, by obtain ⟨n, rfl⟩ := h0; exact ⟨n + m, by rw [← hm, World.drewN_drewN]⟩⟩
theorem quiet_same {P : Program} {f : FuncId} {args : Array Value} {w0 w1 : World} {v : Value} (h : Calls P f args w1 fun e w' => e = .returned v ∧ w1 = w') (h0 : Dr w0 w1) :
    Calls P f args w1 fun e w'' => e = .returned v ∧ ∃ m, w'' = w0.drewN m :=
  h.mono fun _ _ ⟨he, hm⟩ => ⟨he, by obtain ⟨n, rfl⟩ := h0; exact ⟨n, hm.symm⟩⟩
theorem Dr.trans {a b c : World} (h : Dr a b) (k : Dr b c) : Dr a c := by obtain ⟨n, rfl⟩ := h; obtain ⟨m, rfl⟩ := k; exact ⟨n + m, (World.drewN_drewN _ _ _).symm⟩

/-! ### endings -/
theorem ret_int {k : IntKind} {a b : Int} (h : a = b) : Ending.returned (.int k a) = .returned (.int k b) := by rw [h]
theorem ret_bool {a b : Bool} (h : a = b) : Ending.returned (.bool a) = .returned (.bool b) := by rw [h]

/-! ### whole numbers of 64 bits -/
def I64 (a : Int) : Prop := -9223372036854775808 ≤ a ∧ a ≤ 9223372036854775807
theorem I64.of_wf {a : Int} (h : (Lit.int .i64 a).wf = true) : I64 a := by
  unfold I64; simp [Lit.wf, IntKind.min, IntKind.max, IntKind.signed, IntKind.bits] at h; omega
def satAdd (a b : Int) : Int := if 9223372036854775807 < a + b then 9223372036854775807 else if a + b < -9223372036854775808 then -9223372036854775808 else a + b
def satSub (a b : Int) : Int := if 9223372036854775807 < a - b then 9223372036854775807 else if a - b < -9223372036854775808 then -9223372036854775808 else a - b
theorem I64.satAdd (a b : Int) : I64 (satAdd a b) := by unfold I64 Go.Proofs.Yteifpdpppndipaa.satAdd; split <;> (try split) <;> omega
theorem I64.satSub (a b : Int) : I64 (satSub a b) := by unfold I64 Go.Proofs.Yteifpdpppndipaa.satSub; split <;> (try split) <;> omega

/-! ### max and min of two whole numbers, as the walk is to write them -/
@[go_sem] theorem lib_max2_int (k k' : IntKind) (x y : Int) : Builtin.max2 (.int k x) (.int k' y) = pure (.int k (max x y)) := by
  simp only [Builtin.max2, gt_iff_lt]; congr 2; split <;> omega
@[go_sem] theorem lib_min2_int (k k' : IntKind) (x y : Int) : Builtin.min2 (.int k x) (.int k' y) = pure (.int k (min x y)) := by
  simp only [Builtin.min2]; congr 2; split <;> omega
@[go_sem] theorem lib_max_two (ats : Array TypeId) (ty : TypeId) (a b : Value) : Builtin.max_ ats ty #[a, b] = (Builtin.max2 a b >>= fun s => pure s) := by simp only [Builtin.max_, List.foldlM_cons, List.foldlM_nil]
@[go_sem] theorem lib_min_two (ats : Array TypeId) (ty : TypeId) (a b : Value) : Builtin.min_ ats ty #[a, b] = (Builtin.min2 a b >>= fun s => pure s) := by simp only [Builtin.min_, List.foldlM_cons, List.foldlM_nil]

/-! ### rows of cells that are read -/
def Rd (w : World) (A : Option Addr) (vs : List Value) : Prop := ∀ j u, vs[j]? = some u → ∃ ad, A = some ad ∧ w.cell? (ad.add j) = some u
theorem Rd.at_ {w : World} {A : Option Addr} {α : Type} {f : α → Value} {xs : List α} (h : Rd w A (xs.map f)) {j : Nat} (hj : j < xs.length) :
    ∃ ad x, A = some ad ∧ xs[j]? = some x ∧ w.cell? (ad.add j) = some (f x) := by
  obtain ⟨ad, e, hc⟩ := h j (f xs[j]) (by simp [List.getElem?_eq_getElem hj])
  exact ⟨ad, xs[j], e, List.getElem?_eq_getElem hj, hc⟩
theorem Rd.below {w w' : World} {A : Option Addr} {vs : List Value} (h : Rd w A vs) (hb : Below w.heap.size w w') : Rd w' A vs := fun j u hj => by
  obtain ⟨ad, e, hc⟩ := h j u hj
  exact ⟨ad, e, (hb.cell (World.block_lt_of_cell? w _ hc)).trans hc⟩
theorem Rd.mod {w w' : World} {A : Option Addr} {vs : List Value} {S : Nat → Prop} (h : Rd w A vs) (hb : Mod S w w') (hs : ∀ ad, A = some ad → ¬ S ad.block) : Rd w' A vs := fun j u hj => by
  obtain ⟨ad, e, hc⟩ := h j u hj
  have hbl : (ad.add j).block = ad.block := by unfold Addr.add; split <;> rfl
  exact ⟨ad, e, (World.cell?_of_block (w := w) (hb.block _ (World.block_lt_of_cell? w _ hc) (by rw [hbl]; exact hs ad e))).trans hc⟩
theorem Rd.take_map {w : World} {A : Option Addr} {α : Type} {f : α → Value} {xs : List α} (h : Rd w A (xs.map f)) (k : Nat) : Rd w A ((xs.take k).map f) := fun j u hj => by
  rw [List.getElem?_map, List.getElem?_take] at hj
  split at hj
  · exact h j u (by rw [List.getElem?_map]; exact hj)
  · simp at hj
theorem take_snoc' {α : Type} {xs : List α} {j : Nat} {x : α} (h : xs[j]? = some x) : xs.take (j + 1) = xs.take j ++ [x] := by
  rw [List.take_add_one, h]; rfl
theorem mem_of_get {α : Type} {xs : List α} {j : Nat} {x : α} (h : xs[j]? = some x) : x ∈ xs := List.mem_of_getElem? h

end Go.Proofs.Yteifpdpppndipaa
