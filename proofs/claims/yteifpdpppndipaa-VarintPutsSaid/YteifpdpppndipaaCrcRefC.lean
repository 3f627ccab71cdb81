
/- What the reference's Seal answers. No condition. -/
import Derived.Test.YteifpdpppndipaaCrcRefB
namespace Go.Proofs.Yteifpdpppndipaa
set_option maxRecDepth 100000
set_option linter.unusedSimpArgs false
open Go.RowKit
set_option linter.unusedVariables false
set_option linter.unusedSimpArgs false

theorem own_blk {w : World} {base g : Nat} {e : TypeId} {cs : Array Value} {n : Nat} {xs : List Value} (h : Blk w g e cs) (hb : base ≤ g) (hx : cs.toList = xs) (hn : n = cs.size) (hm : n ≤ maxLen) : OwnC w base (.slice (some ⟨g, 0, none⟩) n n) n xs := by
  subst hx hn
  refine ⟨by simp, hm, .inr ⟨g, _, rfl, hb, h.lt, Nat.le_refl _, fun j u hj => ?_, fun j h1 h2 => by omega⟩⟩
  rw [h.cell]
  simpa using hj
def sbyte (n k i : Nat) (b : Nat) : Value := if k ≤ i then .int .u8 (b : Int) else .int .u8 0
def scells (n k : Nat) : Array Value := #[sbyte n k 0 (n / 16777216 % 256), sbyte n k 1 (n / 65536 % 256), sbyte n k 2 (n / 256 % 256), sbyte n k 3 (n % 256)]

end Go.Proofs.Yteifpdpppndipaa
