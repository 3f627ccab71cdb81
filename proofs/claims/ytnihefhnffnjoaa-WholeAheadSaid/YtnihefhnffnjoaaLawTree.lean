
/- The first law of layer 16 (tree), walked. No condition. -/
import Derived.Test.YtnihefhnffnjoaaTreeNew
import Derived.Test.YtnihefhnffnjoaaCells
namespace Go.Proofs.Ytnihefhnffnjoaa
open Go.RowKit
set_option linter.unusedVariables false

theorem IsTree.dr {w w' : World} {lo hi g : Nat} {keys : List Int} {outs : List Bool} (h : IsTree w lo hi g keys outs) (m : Dr w w') : IsTree w' lo hi g keys outs := by obtain ⟨n, rfl⟩ := m; exact h
abbrev Ex6 := List (Nat × TypeId × Array Value)
/-- A tree; other blocks that stay. -/
def STree (w0 w : World) (lo hi g : Nat) (keys : List Int) (outs : List Bool) (ex : Ex6) : Prop :=
  Below w0.heap.size w0 w ∧ w0.heap.size ≤ lo ∧ hi ≤ w.heap.size ∧ IsTree w lo hi g keys outs ∧ Keep w ex (fun k => lo ≤ k ∧ k < hi)
section
variable {w0 w : World} {lo hi g : Nat} {keys : List Int} {outs : List Bool} {ex : Ex6}
theorem STree.bel {w' : World} (h : STree w0 w lo hi g keys outs ex) (hb : Below w.heap.size w w') : STree w0 w' lo hi g keys outs ex := by
  obtain ⟨h1, h2, h3, h4, h5⟩ := h
  have hm : Mod (fun _ => False) w w' := Mod.of_below hb
  exact ⟨bel_then h1 hb, h2, Nat.le_trans h3 hb.size, h4.mod hm (fun _ _ _ h => h), h5.mod hm (fun _ h => h.elim)⟩
theorem STree.dr {w' : World} (h : STree w0 w lo hi g keys outs ex) (hb : Dr w w') : STree w0 w' lo hi g keys outs ex := h.bel hb.below
theorem STree.addE (h : STree w0 w lo hi g keys outs ex) {k : Nat} {T : TypeId} {cs : Array Value} (hb : Blk w k T cs) (hn : k < lo ∨ hi ≤ k) : STree w0 w lo hi g keys outs ((k, T, cs) :: ex) := by
  obtain ⟨h1, h2, h3, h4, h5⟩ := h
  exact ⟨h1, h2, h3, h4, fun x hx => by rcases List.mem_cons.1 hx with rfl | hx; exact ⟨hb, by show ¬ (lo ≤ k ∧ k < hi); omega⟩; exact h5 x hx⟩
theorem STree.set (i x : Int) (h : STree w0 w lo hi g keys outs ex) :
    Calls Try.prog 35 #[.pointer (some ⟨g, 0, none⟩), .int .i64 i, .int .i64 x] w fun e w' => e = .returned (.bool (treeHas keys.length i)) ∧ STree w0 w' lo hi g (alSet keys i x) outs ex := by
  obtain ⟨h1, h2, h3, h4, h5⟩ := h
  refine (tree_Set lo hi g keys outs i x w h4).mono ?_
  rintro e w' ⟨he, ht, hm⟩
  exact ⟨he, bel_mod h1 hm (by intro i hi; omega), h2, Nat.le_trans h3 hm.size, ht, h5.mod hm (fun _ h => h)⟩
theorem STree.leave (i : Int) (x : Bool) (h : STree w0 w lo hi g keys outs ex) :
    Calls Try.prog 34 #[.pointer (some ⟨g, 0, none⟩), .int .i64 i, .bool x] w fun e w' => e = .returned (.bool (treeHas keys.length i)) ∧ STree w0 w' lo hi g keys (bSet outs i x) ex := by
  obtain ⟨h1, h2, h3, h4, h5⟩ := h
  refine (tree_Leave lo hi g keys outs i x w h4).mono ?_
  rintro e w' ⟨he, ht, hm⟩
  exact ⟨he, bel_mod h1 hm (by intro i hi; omega), h2, Nat.le_trans h3 hm.size, ht, h5.mod hm (fun _ h => h)⟩
theorem STree.key (i : Int) (h : STree w0 w lo hi g keys outs ex) :
    Calls Try.prog 36 #[.pointer (some ⟨g, 0, none⟩), .int .i64 i] w fun e w' => e = .returned (.int .i64 (treeKey keys i)) ∧ w = w' := tree_Key lo hi g keys outs i w h.2.2.2.1
theorem STree.len_ (h : STree w0 w lo hi g keys outs ex) :
    Calls Try.prog 38 #[.pointer (some ⟨g, 0, none⟩)] w fun e w' => e = .returned (.int .i64 keys.length) ∧ w = w' := tree_Len lo hi g keys outs w h.2.2.2.1
theorem STree.least (h : STree w0 w lo hi g keys outs ex) :
    Calls Try.prog 37 #[.pointer (some ⟨g, 0, none⟩)] w fun e w' => e = .returned (.tuple #[.int .i64 (treeLK keys outs), .int .i64 (treeLP keys outs), .bool (treeLO keys outs)]) ∧ w = w' := tree_Least lo hi g keys outs w h.2.2.2.1
theorem STree.new_ (n : Int) (hB : Below w0.heap.size w0 w) (hn : n ≤ 1000) :
    Calls Try.prog 33 #[.int .i64 n] w fun e w' => ∃ lo hi g, e = .returned (.pointer (some ⟨g, 0, none⟩)) ∧ STree w0 w' lo hi g (List.replicate n.toNat 0) (List.replicate n.toNat false) [] :=
  (tree_New n w hn).mono fun e w' ⟨g, he, h1, h2⟩ => ⟨_, _, g, he, bel_then hB h2, hB.size, Nat.le_refl _, h1, Keep.nil _ _⟩
theorem STree.below (h : STree w0 w lo hi g keys outs ex) : Below w0.heap.size w0 w := h.1
theorem STree.e0 {k : Nat} {T : TypeId} {cs : Array Value} (h : STree w0 w lo hi g keys outs ((k, T, cs) :: ex)) : Blk w k T cs := (h.2.2.2.2 _ (List.mem_cons_self ..)).1
theorem STree.e1 {k k' : Nat} {T T' : TypeId} {cs cs' : Array Value} (h : STree w0 w lo hi g keys outs ((k, T, cs) :: (k', T', cs') :: ex)) : Blk w k' T' cs' := (h.2.2.2.2 _ (List.mem_cons_of_mem _ (List.mem_cons_self ..))).1
theorem STree.e2 {k k' k'' : Nat} {T T' T'' : TypeId} {cs cs' cs'' : Array Value} (h : STree w0 w lo hi g keys outs ((k, T, cs) :: (k', T', cs') :: (k'', T'', cs'') :: ex)) : Blk w k'' T'' cs'' :=
  (h.2.2.2.2 _ (List.mem_cons_of_mem _ (List.mem_cons_of_mem _ (List.mem_cons_self ..)))).1
/-- A store into one of the other blocks. -/
theorem STree.put {ex' : Ex6} {b i : Nat} {v : Value} (h : STree w0 w lo hi g keys outs ex) (hb0 : w0.heap.size ≤ b) (hb : b < lo ∨ hi ≤ b) (hk : ∀ x ∈ ex', Blk (w.setCell ⟨b, i, none⟩ v) x.1 x.2.1 x.2.2 ∧ (x.1 < lo ∨ hi ≤ x.1)) :
    STree w0 (w.setCell ⟨b, i, none⟩ v) lo hi g keys outs ex' := by
  obtain ⟨h1, h2, h3, h4, h5⟩ := h
  have hm : Mod (fun k => k = b) w (w.setCell ⟨b, i, none⟩ v) := (Mod.refl (fun k => k = b) w).setCell (p := ⟨b, i, none⟩) (fun _ => rfl) _
  exact ⟨bel_mod h1 hm (by intro i hi; omega), h2, by simpa using h3, h4.mod hm (by intro k h1 h2 e; omega), fun x hx => ⟨(hk x hx).1, by have := (hk x hx).2; show ¬ (lo ≤ x.1 ∧ x.1 < hi); omega⟩⟩
theorem STree.sub {ex' : Ex6} (h : STree w0 w lo hi g keys outs ex) (hs : ∀ x ∈ ex', x ∈ ex) : STree w0 w lo hi g keys outs ex' := by
  obtain ⟨h1, h2, h3, h4, h5⟩ := h
  exact ⟨h1, h2, h3, h4, fun x hx => h5 x (hs x hx)⟩
end

theorem law16_speaks (w : World) : Calls Try.prog 32 #[] w fun e w' => e = .returned (.bool true) ∧ Below w.heap.size w w' := by
  go_enter Try.func32, Try.ntmps32
  go_wp2_with fail
  refine (STree.new_ (w0 := w) 3 (bel_refl w) (by omega)).mono ?_
  rintro e w1 ⟨lo, hi, g, rfl, hS⟩
  have hS0 := hS
  clear hS
  have d1 : treeLK (alSet (alSet (alSet [0, 0, 0] 0 5) 1 3) 2 3) [false, false, false] = 3 := by decide
  have d2 : treeLP (alSet (alSet (alSet [0, 0, 0] 0 5) 1 3) 2 3) [false, false, false] = 1 := by decide
  have d3 : treeLO (alSet (alSet (alSet [0, 0, 0] 0 5) 1 3) 2 3) [false, false, false] = true := by decide
  have d4 : treeLK (alSet (alSet (alSet [0, 0, 0] 0 5) 1 3) 2 3) (bSet [false, false, false] 1 true) = 3 := by decide
  have d5 : treeLP (alSet (alSet (alSet [0, 0, 0] 0 5) 1 3) 2 3) (bSet [false, false, false] 1 true) = 2 := by decide
  have d6 : treeLO (alSet (alSet (alSet [0, 0, 0] 0 5) 1 3) 2 3) (bSet [false, false, false] 1 true) = true := by decide
  have d7 : treeKey (alSet (alSet (alSet [0, 0, 0] 0 5) 1 3) 2 3) 0 = 5 := by decide
  go_wp2_with (first
    | (go_at_call 35; refine (STree.set _ _ (by assumption)).mono ?_; rintro e w' ⟨rfl, hS⟩)
    | (go_at_call 34; refine (STree.leave _ _ (by assumption)).mono ?_; rintro e w' ⟨rfl, hS⟩)
    | (go_at_call 36; refine (STree.key _ (by assumption)).mono ?_; rintro e w' ⟨rfl, rfl⟩)
    | (go_at_call 38; refine (STree.len_ (by assumption)).mono ?_; rintro e w' ⟨rfl, rfl⟩)
    | (go_at_call 37; refine (STree.least (by assumption)).mono ?_; rintro e w' ⟨rfl, rfl⟩))
  go_ret
  exact ⟨ret_bool (by decide), hS.below⟩
end Go.Proofs.Ytnihefhnffnjoaa
