
/- The laws of layer 8 (hist), walked. No condition. -/
import Derived.Test.YtckndjgdfhbgcaaDoorHistC
import Derived.Test.YtckndjgdfhbgcaaDoorRef08
namespace Go.Proofs.YtckndjgdfhbgcaaDoor
set_option maxRecDepth 100000
set_option linter.unusedSimpArgs false
open Go.RowKit
set_option linter.unusedVariables false

theorem HistI.mod {w w' : World} {g o B : Nat} {T : TypeId} {cs : Array Value} {v : Value} {bs : List (Int × Nat)} {S : Nat → Prop} (h : HistI w g o T cs B v bs) (hm : Mod S w w') (h1 : ¬ S g) (h2 : ∀ k, v.ownBlock = some k → ¬ S k) : HistI w' g o T cs B v bs := by
  obtain ⟨a1, a2, a3, a4, a5, a6, a7, a8⟩ := h
  exact ⟨a1.mod hm h1, a2, a3, own_mod a4 hm h2, a5, a6, Nat.le_trans a7 hm.size, a8⟩
theorem own_own_ne {w : World} {B B' : Nat} {e t : TypeId} {size size' n n' : Nat} {v v' : Value} {xs ys : List Value} (h : w.ownsRow B e size v n xs) (h' : w.ownsRow B' t size' v' n' ys) (hne : e ≠ t) (k : Nat) (hk : v.ownBlock = some k) : v'.ownBlock ≠ some k := by
  rcases h.2 with ⟨rfl, _⟩ | ⟨g, cap, cur, rfl, _, hh, _⟩
  · simp [Value.ownBlock] at hk
  · simp [Value.ownBlock] at hk; subst hk
    exact own_ne' h' (show Blk w g e cur from hh) (fun e => hne e.symm)
/-- A Hist of its own, and a row of whole numbers beside it. -/
def SH (w0 w : World) (g : Nat) (v : Value) (bs : List (Int × Nat)) (lv : Value) (l : List Int) : Prop :=
  Below w0.heap.size w0 w ∧ w0.heap.size ≤ g ∧ (∃ cs, HistI w g 0 51 cs w0.heap.size v bs) ∧ w.ownsRow w0.heap.size 3 1 lv l.length (l.map (.int .i64))
section
variable {w0 w : World} {g : Nat} {v : Value} {bs : List (Int × Nat)} {lv : Value} {l : List Int}
theorem SH.step {w' : World} {v' : Value} {bs' : List (Int × Nat)} {cs : Array Value} (h : SH w0 w g v bs lv l) (hi : HistI w' g 0 51 cs w0.heap.size v' bs') (hm : Mod (fun k => k = g ∨ v.ownBlock = some k) w w') : SH w0 w' g v' bs' lv l := by
  obtain ⟨h1, h2, ⟨cs0, h3⟩, h4⟩ := h
  refine ⟨bel_mod h1 hm (fun i hi hs => ?_), h2, ⟨cs, hi⟩, own_mod h4 hm (fun k hk hs => ?_)⟩
  · rcases hs with e | e
    · omega
    · have := own_base' h3.2.2.2.1 i e; omega
  · rcases hs with e | e
    · exact own_ne' h4 h3.1 (by decide) (by rw [hk, e])
    · exact own_own_ne h4 h3.2.2.2.1 (by decide) k hk e
theorem SH.below {w' : World} (h : SH w0 w g v bs lv l) (hb : Below w.heap.size w w') : SH w0 w' g v bs lv l := by
  obtain ⟨h1, h2, ⟨cs0, h3⟩, h4⟩ := h
  exact ⟨bel_then h1 hb, h2, ⟨cs0, h3.below hb⟩, own_below h4 hb⟩
theorem SH.add (h : SH w0 w g v bs lv l) (n : Int) (hb : totB bs < 10000) :
    Calls Tryd.prog 28 #[.pointer (some ⟨g, 0, none⟩), .int .i64 n] w fun e w' => e = .returned (.tuple #[]) ∧ ∃ v', SH w0 w' g v' (addB n bs) lv l ∧ Mod (fun k => k = g ∨ v.ownBlock = some k) w w' := by
  have hh := h
  obtain ⟨h1, h2, ⟨cs0, h3⟩, h4⟩ := h
  refine (h3.add n hb).mono ?_
  rintro e w' ⟨rfl, v', hi, hm, -⟩
  exact ⟨rfl, v', hh.step hi hm, hm⟩
theorem SH.remove (h : SH w0 w g v bs lv l) (n : Int) :
    Calls Tryd.prog 27 #[.pointer (some ⟨g, 0, none⟩), .int .i64 n] w fun e w' => e = .returned (.bool (isB n bs)) ∧ ∃ v', SH w0 w' g v' (remB n bs) lv l ∧ Mod (fun k => k = g ∨ v.ownBlock = some k) w w' := by
  have hh := h
  obtain ⟨h1, h2, ⟨cs0, h3⟩, h4⟩ := h
  refine (h3.remove n).mono ?_
  rintro e w' ⟨rfl, v', hi, hm, -⟩
  exact ⟨rfl, v', hh.step hi hm, hm⟩
theorem SH.rank (h : SH w0 w g v bs lv l) (k : Int) (hk : I64 k) :
    Calls Tryd.prog 43 #[.pointer (some ⟨g, 0, none⟩), .int .i64 k] w fun e w' => e = .returned (.tuple #[.int .i64 (rkR bs k).1, .bool (rkR bs k).2]) ∧ SH w0 w' g v bs lv l := by
  have hh := h
  obtain ⟨h1, h2, ⟨cs0, h3⟩, h4⟩ := h
  exact (h3.rank k hk).mono fun e w' ⟨he, hb⟩ => ⟨he, hh.below hb⟩
theorem SH.percent (h : SH w0 w g v bs lv l) (p : Int) (hp0 : 0 ≤ p) (hp1 : p ≤ 100) :
    Calls Tryd.prog 36 #[.pointer (some ⟨g, 0, none⟩), .int .i64 p] w fun e w' => e = .returned (.tuple #[.int .i64 (pcR bs p (totB bs : Nat)).1, .bool (pcR bs p (totB bs : Nat)).2]) ∧ SH w0 w' g v bs lv l := by
  have hh := h
  obtain ⟨h1, h2, ⟨cs0, h3⟩, h4⟩ := h
  exact (h3.percent p hp0 hp1).mono fun e w' ⟨he, hb⟩ => ⟨he, hh.below hb⟩
theorem SH.new_ {w0 w : World} (hb : Below w0.heap.size w0 w) : SH w0 (w.alloc (.cells #[.slice none 0 0, .int .i64 0] 51)) w.heap.size (.slice none 0 0) [] (.slice none 0 0) [] := by
  refine ⟨bel_alloc hb _, hb.size, ⟨_, Blk.new_ _ _ _, rfl, rfl, own_nil' _ _ _ _, ⟨List.Pairwise.nil, fun b hb => by cases hb⟩, by decide, by have := hb.size; simp; omega, by decide⟩, own_nil' _ _ _ _⟩
theorem SH.rd (h : SH w0 w g v bs lv l) : ∃ A c, lv = .slice A l.length c ∧ l.length ≤ c ∧ c ≤ maxLen ∧ Rd w A (l.map (.int .i64)) := own_rd h.2.2.2
theorem SH.setl {lv' : Value} {l' : List Int} {B : Nat} (h : SH w0 w g v bs lv l) (hB : w0.heap.size ≤ B) (ho : w.ownsRow B 3 1 lv' l'.length (l'.map (.int .i64))) : SH w0 w g v bs lv' l' :=
  ⟨h.1, h.2.1, h.2.2.1, own_lower ho hB⟩
theorem SH.far (h : SH w0 w g v bs lv l) {k : Nat} (hk : w.heap.size ≤ k) : k ≠ g ∧ v.ownBlock ≠ some k := by
  obtain ⟨h1, h2, ⟨cs0, h3⟩, h4⟩ := h
  have h5 := h3.1.lt
  exact ⟨by omega, fun e => by have := own_lt' h3.2.2.2.1 k e; omega⟩
theorem SH.bel (h : SH w0 w g v bs lv l) : Below w0.heap.size w0 w := h.1
end
end Go.Proofs.YtckndjgdfhbgcaaDoor
