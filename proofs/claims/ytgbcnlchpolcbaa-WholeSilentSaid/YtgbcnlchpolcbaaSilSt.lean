
/- Who is silent doesn't count: what the law's memory holds, and what each call makes of it. No condition. -/
import Derived.Test.YtgbcnlchpolcbaaSilPure
import Derived.Test.YtgbcnlchpolcbaaTreeNew
import Derived.Test.YtgbcnlchpolcbaaCells
namespace Go.Proofs.Ytgbcnlchpolcbaa
set_option maxRecDepth 100000
set_option linter.unusedSimpArgs false
open Go.RowKit
set_option linter.unusedVariables false
set_option linter.unusedSimpArgs false

def Sts (W : World) (G : List Nat) (wait : Int) (st : List (Int × Int)) : Prop := G.length = st.length ∧ ∀ (i gi : Nat) (s : Int × Int), G[i]? = some gi → st[i]? = some s → IdleB W gi wait s.1 s.2
def SSt (w0 W : World) (gc lo hi g : Nat) (G : List Nat) (bl : Nat) (now wait : Int) (keys : List Int) (outs : List Bool) (st : List (Int × Int)) (last : List Int) (ex : List (Nat × TypeId × Array Value)) : Prop :=
  Below w0.heap.size w0 W ∧ (w0.heap.size ≤ gc ∧ gc < lo) ∧ hi ≤ bl ∧ lo ≤ hi ∧ (∀ x ∈ G, bl < x) ∧ G.Nodup ∧ Blk W gc 25 #[.int .i64 now] ∧ IsTree W lo hi g keys outs ∧ Sts W G wait st ∧ Blk W bl 3 (last.map (.int .i64)).toArray ∧ I64 now ∧ I64 wait ∧
    Keep W ex (fun k => k = gc ∨ (lo ≤ k ∧ k < hi) ∨ k ∈ G ∨ k = bl)
section
variable {w0 W W' : World} {gc lo hi g bl : Nat} {G : List Nat} {now wait : Int} {keys : List Int} {outs : List Bool} {st : List (Int × Int)} {last : List Int} {ex : List (Nat × TypeId × Array Value)}
theorem Sts.mod {S : Nat → Prop} (h : Sts W G wait st) (hm : Mod S W W') (hs : ∀ x ∈ G, ¬ S x) : Sts W' G wait st :=
  ⟨h.1, fun i gi s a b => (h.2 i gi s a b).mod hm (hs gi (List.mem_of_getElem? a))⟩
theorem SSt.below (h : SSt w0 W gc lo hi g G bl now wait keys outs st last ex) : Below w0.heap.size w0 W := h.1
theorem SSt.nop {S : Nat → Prop} (h : SSt w0 W gc lo hi g G bl now wait keys outs st last ex) (hm : Mod S W W') (h0 : ∀ i, i < w0.heap.size → ¬ S i) (h1 : ∀ k, (k = gc ∨ (lo ≤ k ∧ k < hi) ∨ k ∈ G ∨ k = bl) → ¬ S k) (h2 : ∀ x ∈ ex, ¬ S x.1) : SSt w0 W' gc lo hi g G bl now wait keys outs st last ex := by
  obtain ⟨a1, a2, a3, a4, a5, a6, a7, a8, a9, a10, a11, a12, a13⟩ := h
  exact ⟨bel_mod a1 hm h0, a2, a3, a4, a5, a6, a7.mod hm (h1 _ (.inl rfl)), a8.mod hm (fun k b c => h1 k (.inr (.inl ⟨b, c⟩))), a9.mod hm (fun x hx => h1 x (.inr (.inr (.inl hx)))), a10.mod hm (h1 _ (.inr (.inr (.inr rfl)))), a11, a12, fun x hx => ⟨(a13 x hx).1.mod hm (h2 x hx), (a13 x hx).2⟩⟩
theorem SSt.bel (h : SSt w0 W gc lo hi g G bl now wait keys outs st last ex) (hb : Below W.heap.size W W') : SSt w0 W' gc lo hi g G bl now wait keys outs st last ex :=
  h.nop (S := fun _ => False) (Mod.of_below hb) (fun _ _ h => h) (fun _ _ h => h) (fun _ _ h => h)
theorem SSt.go (by_ : Int) (h : SSt w0 W gc lo hi g G bl now wait keys outs st last ex) (hb : I64 by_) :
    Calls Try.prog 9 #[.pointer (some ⟨gc, 0, none⟩), .int .i64 by_] W fun e w' => e = .returned (.bool (decide (0 ≤ by_))) ∧ SSt w0 w' gc lo hi g G bl (clockGo now by_) wait keys outs st last ex := by
  obtain ⟨a1, a2, a3, a4, a5, a6, a7, a8, a9, a10, a11, a12, a13⟩ := h
  refine (clock_Go gc 0 now by_ W (by simpa using a7.cell 0) (a7.frozen 0) a11 hb).mono ?_
  rintro e w' ⟨rfl, rfl⟩
  have hm : Mod (fun k => k = gc) W (W.setCell ⟨gc, 0, none⟩ (.int .i64 (clockGo now by_))) := (Mod.refl (fun k => k = gc) W).setCell (p := ⟨gc, 0, none⟩) (fun _ => rfl) _
  exact ⟨rfl, bel_mod a1 hm (fun i hi e => by omega), a2, a3, a4, a5, a6, (a7.set 0 _).cast (by simp), a8.mod hm (fun k b c e => by omega), a9.mod hm (fun x hx e => by have := a5 x hx; omega), a10.mod hm (fun e => by omega), I64.clockGo a11, a12, a13.mod hm (fun k e => .inl e)⟩
theorem SSt.nowc (h : SSt w0 W gc lo hi g G bl now wait keys outs st last ex) :
    Calls Try.prog 13 #[.pointer (some ⟨gc, 0, none⟩)] W fun e w' => e = .returned (.int .i64 now) ∧ W = w' := clock_Now gc 0 now W (by simpa using h.2.2.2.2.2.2.1.cell 0)
theorem SSt.leave (i : Int) (x : Bool) (h : SSt w0 W gc lo hi g G bl now wait keys outs st last ex) :
    Calls Try.prog 6 #[.pointer (some ⟨g, 0, none⟩), .int .i64 i, .bool x] W fun e w' => e = .returned (.bool (treeHas keys.length i)) ∧ SSt w0 w' gc lo hi g G bl now wait keys (bSet outs i x) st last ex := by
  obtain ⟨a1, a2, a3, a4, a5, a6, a7, a8, a9, a10, a11, a12, a13⟩ := h
  refine (tree_Leave lo hi g keys outs i x W a8).mono ?_
  rintro e w' ⟨he, ht, hm⟩
  exact ⟨he, bel_mod a1 hm (fun i hi e => by omega), a2, a3, a4, a5, a6, a7.mod hm (fun e => by omega), ht, a9.mod hm (fun x hx e => by have := a5 x hx; omega), a10.mod hm (fun e => by omega), a11, a12, a13.mod hm (fun k e => .inr (.inl e))⟩
theorem SSt.set_ (i x : Int) (h : SSt w0 W gc lo hi g G bl now wait keys outs st last ex) :
    Calls Try.prog 7 #[.pointer (some ⟨g, 0, none⟩), .int .i64 i, .int .i64 x] W fun e w' => e = .returned (.bool (treeHas keys.length i)) ∧ SSt w0 w' gc lo hi g G bl now wait (alSet keys i x) outs st last ex ∧ Mod (fun k => lo ≤ k ∧ k < hi) W w' := by
  obtain ⟨a1, a2, a3, a4, a5, a6, a7, a8, a9, a10, a11, a12, a13⟩ := h
  refine (tree_Set lo hi g keys outs i x W a8).mono ?_
  rintro e w' ⟨he, ht, hm⟩
  exact ⟨he, ⟨bel_mod a1 hm (fun i hi e => by omega), a2, a3, a4, a5, a6, a7.mod hm (fun e => by omega), ht, a9.mod hm (fun x hx e => by have := a5 x hx; omega), a10.mod hm (fun e => by omega), a11, a12, a13.mod hm (fun k e => .inr (.inl e))⟩, hm⟩
theorem SSt.least (h : SSt w0 W gc lo hi g G bl now wait keys outs st last ex) :
    Calls Try.prog 16 #[.pointer (some ⟨g, 0, none⟩)] W fun e w' => e = .returned (.tuple #[.int .i64 (treeLK keys outs), .int .i64 (treeLP keys outs), .bool (treeLO keys outs)]) ∧ W = w' := tree_Least lo hi g keys outs W h.2.2.2.2.2.2.2.1
theorem Sts.put {i gi : Nat} {u is : Int} (h : Sts W G wait st) (hn : G.Nodup) (hg : G[i]? = some gi) (hm : Mod (fun k => k = gi) W W') (hi : IdleB W' gi wait u is) : Sts W' G wait (st.set i (u, is)) := by
  refine ⟨by rw [List.length_set]; exact h.1, fun j gj s a b => ?_⟩
  by_cases hij : j = i
  · subst hij
    rw [hg] at a
    have := Option.some.inj a
    subst this
    have hl : j < st.length := by rw [← h.1]; exact (List.getElem?_eq_some_iff.1 hg).1
    rw [List.getElem?_set_self hl] at b
    have := Option.some.inj b
    subst this
    exact hi
  · rw [List.getElem?_set_ne (fun e => hij e.symm)] at b
    refine (h.2 j gj s a b).mod hm (fun e => ?_)
    subst e
    obtain ⟨h1, e1⟩ := List.getElem?_eq_some_iff.1 hg
    obtain ⟨h2, e2⟩ := List.getElem?_eq_some_iff.1 a
    exact hij ((List.getElem_inj hn).1 (e2.trans e1.symm))
theorem SSt.put {i gi : Nat} {u is : Int} (h : SSt w0 W gc lo hi g G bl now wait keys outs st last ex) (hg : G[i]? = some gi) (hm : Mod (fun k => k = gi) W W') (hib : IdleB W' gi wait u is) :
    SSt w0 W' gc lo hi g G bl now wait keys outs (st.set i (u, is)) last ex := by
  obtain ⟨a1, a2, a3, a4, a5, a6, a7, a8, a9, a10, a11, a12, a13⟩ := h
  have hgi := List.mem_of_getElem? hg
  have h5 := a5 gi hgi
  exact ⟨bel_mod a1 hm (fun i hi e => by omega), a2, a3, a4, a5, a6, a7.mod hm (fun e => by omega), a8.mod hm (fun k b c e => by omega), a9.put a6 hg hm hib, a10.mod hm (fun e => by omega), a11, a12, a13.mod hm (fun k e => .inr (.inr (.inl (by subst e; exact hgi))))⟩
theorem SSt.tick {i gi : Nat} {u is : Int} (h : SSt w0 W gc lo hi g G bl now wait keys outs st last ex) (hg : G[i]? = some gi) (hs : st[i]? = some (u, is)) :
    Calls Try.prog 10 #[.pointer (some ⟨gi, 0, none⟩), .pointer (some ⟨gc, 0, none⟩)] W fun e w' => e = .returned (.bool (iTickB is u now)) ∧ SSt w0 w' gc lo hi g G bl now wait keys outs (st.set i (u, iTickIs is u now)) last ex :=
  (idle_Tick gi gc 0 now wait u is W (h.2.2.2.2.2.2.2.2.1.2 i gi _ hg hs) (by simpa using h.2.2.2.2.2.2.1.cell 0)).mono fun e w' ⟨he, h1, h2⟩ => ⟨he, h.put hg h2 h1⟩
theorem SSt.end_ {i gi : Nat} {u is : Int} (h : SSt w0 W gc lo hi g G bl now wait keys outs st last ex) (hg : G[i]? = some gi) (hs : st[i]? = some (u, is)) :
    Calls Try.prog 11 #[.pointer (some ⟨gi, 0, none⟩)] W fun e w' => e = .returned (.bool (!idleOver is)) ∧ SSt w0 w' gc lo hi g G bl now wait keys outs (st.set i (u, iEnd is 2)) last ex :=
  (idle_End gi wait u is W (h.2.2.2.2.2.2.2.2.1.2 i gi _ hg hs)).mono fun e w' ⟨he, h1, h2⟩ => ⟨he, h.put hg h2 h1⟩
theorem SSt.read {i gi : Nat} {u is : Int} (h : SSt w0 W gc lo hi g G bl now wait keys outs st last ex) (hg : G[i]? = some gi) (hs : st[i]? = some (u, is)) :
    Calls Try.prog 12 #[.pointer (some ⟨gi, 0, none⟩), .pointer (some ⟨gc, 0, none⟩)] W fun e w' => e = .returned (.bool (!idleOver is)) ∧ SSt w0 w' gc lo hi g G bl now wait keys outs (st.set i (iReadU is u now wait, iEnd is 0)) last ex :=
  (idle_Read gi gc 0 now wait u is W (h.2.2.2.2.2.2.2.2.1.2 i gi _ hg hs) (by simpa using h.2.2.2.2.2.2.1.cell 0) (by have := h.2.2.2.2.1 gi (List.mem_of_getElem? hg); have := h.2.1; have := h.2.2.1; have := h.2.2.2.1; omega) h.2.2.2.2.2.2.2.2.2.2.1 h.2.2.2.2.2.2.2.2.2.2.2.1).mono fun e w' ⟨he, h1, h2⟩ => ⟨he, h.put hg h2 h1⟩
theorem SSt.over {i gi : Nat} {u is : Int} (h : SSt w0 W gc lo hi g G bl now wait keys outs st last ex) (hg : G[i]? = some gi) (hs : st[i]? = some (u, is)) :
    Calls Try.prog 14 #[.pointer (some ⟨gi, 0, none⟩)] W fun e w' => e = .returned (.bool (idleOver is)) ∧ W = w' := idle_Over gi wait u is W (h.2.2.2.2.2.2.2.2.1.2 i gi _ hg hs)
theorem SSt.isc {i gi : Nat} {u is : Int} (h : SSt w0 W gc lo hi g G bl now wait keys outs st last ex) (hg : G[i]? = some gi) (hs : st[i]? = some (u, is)) :
    Calls Try.prog 15 #[.pointer (some ⟨gi, 0, none⟩)] W fun e w' => e = .returned (.int .i64 is) ∧ W = w' := idle_Is gi wait u is W (h.2.2.2.2.2.2.2.2.1.2 i gi _ hg hs)
theorem SSt.putLast (i : Nat) (x : Int) (h : SSt w0 W gc lo hi g G bl now wait keys outs st last ex) :
    SSt w0 (W.setCell ⟨bl, i, none⟩ (.int .i64 x)) gc lo hi g G bl now wait keys outs st (last.set i x) ex := by
  obtain ⟨a1, a2, a3, a4, a5, a6, a7, a8, a9, a10, a11, a12, a13⟩ := h
  have hm : Mod (fun k => k = bl) W (W.setCell ⟨bl, i, none⟩ (.int .i64 x)) := (Mod.refl (fun k => k = bl) W).setCell (p := ⟨bl, i, none⟩) (fun _ => rfl) _
  exact ⟨bel_mod a1 hm (fun i hi e => by omega), a2, a3, a4, a5, a6, a7.mod hm (fun e => by omega), a8.mod hm (fun k b c e => by omega), a9.mod hm (fun x hx e => by have := a5 x hx; omega), (a10.set i _).cast (by simp [List.map_set]), a11, a12, a13.mod hm (fun k e => .inr (.inr (.inr e)))⟩
/-- one status more -/
theorem SSt.new_ (h : SSt w0 W gc lo hi g G bl now wait keys outs st last []) :
    Calls Try.prog 8 #[.pointer (some ⟨gc, 0, none⟩), .int .i64 wait] W fun e w' => ∃ gi, e = .returned (.pointer (some ⟨gi, 0, none⟩)) ∧ W.heap.size ≤ gi ∧ SSt w0 w' gc lo hi g (G ++ [gi]) bl now wait keys outs (st ++ [(satAdd now (max wait 0), 0)]) last [] ∧ Below W.heap.size W w' := by
  have hh := h
  obtain ⟨a1, a2, a3, a4, a5, a6, a7, a8, a9, a10, a11, a12, a13⟩ := h
  refine (idle_New gc 0 now wait W (by simpa using a7.cell 0) a11 a12).mono ?_
  rintro e w' ⟨gi, rfl, hgi, hI, hB⟩
  have hbl := a10.lt
  have hG : ∀ x ∈ G, x < W.heap.size := by
    intro x hx
    obtain ⟨i, hi⟩ := List.getElem?_of_mem hx
    have hil : i < st.length := by rw [← a9.1]; exact (List.getElem?_eq_some_iff.1 hi).1
    exact Blk.lt (a9.2 i x _ hi (List.getElem?_eq_getElem hil))
  obtain ⟨b1, b2, b3, b4, b5, b6, b7, b8, b9, b10, b11, b12, b13⟩ := hh.bel hB
  refine ⟨gi, rfl, hgi, ⟨b1, b2, b3, b4, ?_, ?_, b7, b8, ⟨by simp [b9.1], ?_⟩, b10, b11, b12, Keep.nil _ _⟩, hB⟩
  · intro x hx
    rcases List.mem_append.1 hx with hx | hx
    · exact a5 x hx
    · rw [List.mem_singleton] at hx; omega
  · rw [List.nodup_append]
    exact ⟨a6, by simp, fun x hx y hy => by rw [List.mem_singleton] at hy; have := hG x hx; omega⟩
  · intro i gj s a b
    by_cases hi : i < G.length
    · rw [List.getElem?_append_left hi] at a
      rw [List.getElem?_append_left (by rw [← a9.1]; exact hi)] at b
      exact b9.2 i gj s a b
    · have hil := (List.getElem?_eq_some_iff.1 a).1
      rw [List.length_append, List.length_singleton] at hil
      have hie : i = G.length := by omega
      subst hie
      have ha : gj = gi := by simpa using a.symm
      rw [a9.1] at b
      have hb : s = (satAdd now (max wait 0), 0) := by simpa using b.symm
      subst ha hb
      exact hI
end
end Go.Proofs.Ytgbcnlchpolcbaa
