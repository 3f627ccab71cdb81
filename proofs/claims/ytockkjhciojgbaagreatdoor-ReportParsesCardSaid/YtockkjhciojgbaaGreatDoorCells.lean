
/- Structs of plain data in rows: their cells; blocks that a call leaves alone. No condition. -/
import Derived.Test.YtockkjhciojgbaaGreatDoorOpen
namespace Go.Proofs.YtockkjhciojgbaaGreatDoor
set_option maxRecDepth 100000
set_option linter.unusedSimpArgs false
open Go.RowKit
set_option linter.unusedVariables false

/-- Rows of structs: what a law's slice of structs is told as. -/
def RdS {α : Type} (w : World) (A : Option Addr) (sz : Nat) (f : α → List Value) (xs : List α) : Prop :=
  ∀ j x, xs[j]? = some x → ∃ ad, A = some ad ∧ (f x).length = sz ∧ ∀ i u, (f x)[i]? = some u → w.cell? ((ad.add (j * sz)).add i) = some u
theorem RdS.mod {α : Type} {w w' : World} {A : Option Addr} {sz : Nat} {f : α → List Value} {xs : List α} {S : Nat → Prop} (h : RdS w A sz f xs) (hm : Mod S w w') (hs : ∀ ad, A = some ad → ¬ S ad.block) : RdS w' A sz f xs := by
  intro j x hj
  obtain ⟨ad, e, hl, hc⟩ := h j x hj
  refine ⟨ad, e, hl, fun i u hi => ?_⟩
  have hb : ((ad.add (j * sz)).add i).block = ad.block := by unfold Addr.add; split <;> (try split) <;> rfl
  exact hm.cell (hc i u hi) (by rw [hb]; exact hs ad e)
theorem RdS.below {α : Type} {w w' : World} {A : Option Addr} {sz : Nat} {f : α → List Value} {xs : List α} (h : RdS w A sz f xs) (hm : Below w.heap.size w w') : RdS w' A sz f xs :=
  h.mod (Mod.of_below (S := fun _ => False) hm) (fun _ _ h => h)

/-- Blocks that are known whole and that a footprint spares. -/
def Keep (w : World) (ex : List (Nat × TypeId × Array Value)) (fp : Nat → Prop) : Prop := ∀ x ∈ ex, Blk w x.1 x.2.1 x.2.2 ∧ ¬ fp x.1
theorem Keep.mod {w w' : World} {ex : List (Nat × TypeId × Array Value)} {fp S : Nat → Prop} (h : Keep w ex fp) (hm : Mod S w w') (hs : ∀ k, S k → fp k) : Keep w' ex fp :=
  fun x hx => ⟨(h x hx).1.mod hm (fun hk => (h x hx).2 (hs _ hk)), (h x hx).2⟩
theorem Keep.nil (w : World) (fp : Nat → Prop) : Keep w [] fp := fun x hx => by cases hx
theorem wf_u8 {a : Int} (h : (Lit.int .u8 a).wf = true) : 0 ≤ a ∧ a < 256 := by
  simp [Lit.wf, IntKind.min, IntKind.max, IntKind.signed, IntKind.bits] at h; omega
theorem wf_u16 {a : Int} (h : (Lit.int .u16 a).wf = true) : 0 ≤ a ∧ a < 65536 := by
  simp [Lit.wf, IntKind.min, IntKind.max, IntKind.signed, IntKind.bits] at h; omega
theorem wf_u32 {a : Int} (h : (Lit.int .u32 a).wf = true) : 0 ≤ a ∧ a < 4294967296 := by
  simp [Lit.wf, IntKind.min, IntKind.max, IntKind.signed, IntKind.bits] at h; omega
theorem wf_u64 {a : Int} (h : (Lit.int .u64 a).wf = true) : 0 ≤ a ∧ a < 18446744073709551616 := by
  simp [Lit.wf, IntKind.min, IntKind.max, IntKind.signed, IntKind.bits] at h; omega
end Go.Proofs.YtockkjhciojgbaaGreatDoor
