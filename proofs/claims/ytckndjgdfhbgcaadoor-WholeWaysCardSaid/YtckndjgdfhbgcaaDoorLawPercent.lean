
/- The laws of layer 12 (percent), walked. No condition. -/
import Derived.Test.YtckndjgdfhbgcaaDoorRef12
import Derived.Test.YtckndjgdfhbgcaaDoorCells
namespace Go.Proofs.YtckndjgdfhbgcaaDoor
set_option maxRecDepth 100000
set_option linter.unusedSimpArgs false
open Go.RowKit
set_option linter.unusedVariables false

def pN (l : List Int) (p : Int) (n : Nat) : Int := pNow l p n l.length
theorem pNow_app (l r : List Int) (p : Int) (n : Nat) : ∀ i, i ≤ l.length → pNow (l ++ r) p n i = pNow l p n i
  | 0, _ => rfl
  | i + 1, h => by
    rw [pNow, pNow, pNow_app l r p n i (by omega), List.take_append_of_le_length h]
theorem pN_snoc (l : List Int) (x p : Int) (n : Nat) : pN (l ++ [x]) p n = max (pN l p n) (bAfter (max (mostOf l) x) (pLag (winL n (l ++ [x])) p)) := by
  unfold pN
  rw [List.length_append, List.length_singleton, pNow, pNow_app l [x] p n l.length (Nat.le_refl _), List.take_of_length_le (by simp), mostOf_snoc]
theorem pN_I64 (l : List Int) (p : Int) (n : Nat) : I64 (pN l p n) := pNow_I64 _ _ _ _
def PG (w : World) (B g rg rb : Nat) (v : Value) (p : Int) (n : Nat) (l : List Int) : Prop := PGen w B g rg rb v p n (winL n l) (pN l p n) (mostOf l)
section
variable {w w' : World} {B g rg rb : Nat} {v : Value} {p : Int} {n : Nat} {l : List Int}
theorem PG.seen (h : PG w B g rg rb v p n l) (kind x : Int) (txt : ByteArray) (hx : I64 x) (hl : l.length < 9000) :
    Calls Tryd.prog 16 #[.pointer (some ⟨g, 0, none⟩), .agg #[.int .i64 kind, .int .i64 x, .string txt]] w fun e w' =>
      e = .returned (.tuple #[]) ∧ ∃ v', PG w' B g rg rb v' p n (l ++ [x]) ∧ Mod (PF g rg rb v) w w' ∧ (v'.ownBlock = v.ownBlock ∨ ∃ b, v'.ownBlock = some b ∧ w.heap.size ≤ b) := by
  have hb := h.bound
  have := percent_Seen h kind x txt hx (by rw [winL_len]; omega)
  rw [← winL_snoc n l x hb.2.2.2.2, ← pN_snoc, ← mostOf_snoc] at this
  exact this
theorem PG.lag (h : PG w B g rg rb v p n l) : Calls Tryd.prog 29 #[.pointer (some ⟨g, 0, none⟩)] w fun e w' => e = .returned (.int .i64 (pLag (winL n l) p)) ∧ Below w.heap.size w w' := percent_Lag h
theorem PG.now (h : PG w B g rg rb v p n l) : Calls Tryd.prog 17 #[.pointer (some ⟨g, 0, none⟩)] w fun e w' => e = .returned (.int .i64 (pN l p n)) ∧ w = w' := percent_Now h
theorem PG.below (h : PG w B g rg rb v p n l) (hb : Below w.heap.size w w') : PG w' B g rg rb v p n l := PGen.below h hb
theorem PG.mod {S : Nat → Prop} (h : PG w B g rg rb v p n l) (hm : Mod S w w') (hs : ∀ k, PF g rg rb v k → ¬ S k) : PG w' B g rg rb v p n l := PGen.mod h hm hs
end
theorem PG.new_ (p : Int) (n : Nat) (w : World) (hp0 : 0 ≤ p) (hp1 : p ≤ 100) (hw : n ≤ 5000) (hw1 : 1 ≤ n) :
    Calls Tryd.prog 14 #[.int .i64 p, .int .i64 (n : Int)] w fun e w' => ∃ g rg rb, e = .returned (.pointer (some ⟨g, 0, none⟩)) ∧ PG w' w.heap.size g rg rb (.slice none 0 0) p n [] ∧ Below w.heap.size w w' := by
  have := percent_New p (n : Int) w hp0 hp1 (by omega)
  rw [show (max (n : Int) 1).toNat = n by omega] at this
  unfold PG
  rw [show winL n [] = [] by unfold winL lagsOf; simp]
  exact this
theorem litRd (w : World) : Rd (w.alloc (.cells #[.int .i64 10, .int .i64 8, .int .i64 11] 3)) (some ⟨w.heap.size, 0, none⟩) (([10, 8, 11] : List Int).map (.int .i64)) := (Blk.new_ w _ _).rd rfl
end Go.Proofs.YtckndjgdfhbgcaaDoor
