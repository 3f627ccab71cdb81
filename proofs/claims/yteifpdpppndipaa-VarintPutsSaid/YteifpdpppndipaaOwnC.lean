
/- A row of one-cell elements that a call owns, told cell by cell (a row that came out of a text is one, too): appending to it, reading it as a text. No condition. -/
import Derived.Test.YteifpdpppndipaaOwn
import Derived.ArgAppend
import Derived.Laws.BytesArg
import Derived.Lib.ConvBytes
namespace Go.Proofs.Yteifpdpppndipaa
set_option maxRecDepth 100000
set_option linter.unusedSimpArgs false
open Go.RowKit
set_option linter.unusedVariables false
set_option linter.unusedSimpArgs false

def OwnC (w : World) (base : Nat) (v : Value) (n : Nat) (xs : List Value) : Prop :=
  xs.length = n ∧ n ≤ maxLen ∧ ((v = .slice none 0 0 ∧ n = 0) ∨ ∃ g cap, v = .slice (some ⟨g, 0, none⟩) n cap ∧ base ≤ g ∧ g < w.heap.size ∧ n ≤ cap ∧ (∀ j u, xs[j]? = some u → w.cell? ⟨g, j, none⟩ = some u) ∧
    ∀ j, n ≤ j → j < cap → (w.cell? ⟨g, j, none⟩).isSome = true ∧ w.frozen? ⟨g, j, none⟩ = false)
theorem OwnC.nil (w : World) (base : Nat) : OwnC w base (.slice none 0 0) 0 [] := ⟨rfl, by unfold maxLen; omega, .inl ⟨rfl, rfl⟩⟩
theorem OwnC.of_own {w : World} {base n : Nat} {e : TypeId} {v : Value} {xs : List Value} (h : w.ownsRow base e 1 v n xs) : OwnC w base v n xs := by
  have hl := h.1
  rw [Nat.mul_one] at hl
  rcases h.2 with ⟨rfl, rfl⟩ | ⟨g, cap, cur, rfl, hb, hh, h1, h2, h3, h4⟩
  · exact ⟨hl, by unfold maxLen; omega, .inl ⟨rfl, rfl⟩⟩
  · have hB : Blk w g e cur := hh
    refine ⟨hl, Nat.le_trans h1 h2, .inr ⟨g, cap, rfl, hb, hB.lt, h1, fun j u hj => ?_, fun j hj hc => ⟨?_, hB.frozen j⟩⟩⟩
    · rw [hB.cell]
      rw [← h4, List.getElem?_take] at hj
      split at hj
      · simpa using hj
      · cases hj
    · rw [hB.cell, Array.getElem?_eq_getElem (by rw [h3]; omega)]; rfl
theorem OwnC.len {w : World} {base n : Nat} {v : Value} {xs : List Value} (h : OwnC w base v n xs) : xs.length = n := h.1
theorem OwnC.lower {w : World} {base base' n : Nat} {v : Value} {xs : List Value} (h : OwnC w base v n xs) (hb : base' ≤ base) : OwnC w base' v n xs := by
  obtain ⟨h0, hm, h⟩ := h
  rcases h with h | ⟨g, cap, hv, hg, h⟩
  · exact ⟨h0, hm, .inl h⟩
  · exact ⟨h0, hm, .inr ⟨g, cap, hv, by omega, h⟩⟩
theorem OwnC.base {w : World} {base n : Nat} {v : Value} {xs : List Value} (h : OwnC w base v n xs) (k : Nat) (hk : v.ownBlock = some k) : base ≤ k ∧ k < w.heap.size := by
  rcases h.2.2 with ⟨rfl, _⟩ | ⟨g, cap, rfl, hb, hl, _⟩
  · simp [Value.ownBlock] at hk
  · simp [Value.ownBlock] at hk; subst hk; exact ⟨hb, hl⟩
theorem OwnC.mod {w w1 : World} {S : Nat → Prop} {base n : Nat} {v : Value} {xs : List Value} (h : OwnC w base v n xs) (hm : Mod S w w1) (hs : ∀ k, v.ownBlock = some k → ¬ S k) : OwnC w1 base v n xs := by
  obtain ⟨h0, hml, h⟩ := h
  rcases h with h | ⟨g, cap, rfl, hb, hl, hn, hc, hf⟩
  · exact ⟨h0, hml, .inl h⟩
  · have hbl := hm.block g hl (hs g rfl)
    refine ⟨h0, hml, .inr ⟨g, cap, rfl, hb, Nat.lt_of_lt_of_le hl hm.size, hn, fun j u hj => (World.cell?_of_block (w := w) (w' := w1) (a := ⟨g, j, none⟩) hbl).trans (hc j u hj), fun j h1 h2 => ?_⟩⟩
    have e1 := World.cell?_of_block (w := w) (w' := w1) (a := ⟨g, j, none⟩) hbl
    have e2 := World.frozen?_of_block (w := w) (w' := w1) (a := ⟨g, j, none⟩) hbl
    rw [e1, e2]; exact hf j h1 h2
theorem OwnC.below {w w1 : World} {base n : Nat} {v : Value} {xs : List Value} (h : OwnC w base v n xs) (hm : Below w.heap.size w w1) : OwnC w1 base v n xs :=
  h.mod (Mod.of_below (S := fun _ => False) hm) (fun _ _ h => h)
theorem OwnC.rd {w : World} {base n : Nat} {v : Value} {xs : List Value} (h : OwnC w base v n xs) : ∃ A c, v = .slice A n c ∧ n ≤ c ∧ Rd w A xs := by
  rcases h.2.2 with ⟨rfl, rfl⟩ | ⟨g, cap, rfl, hb, hl, hn, hc, hf⟩
  · have h1 := h.1
    have : xs = [] := List.eq_nil_of_length_eq_zero h1
    subst this
    exact ⟨none, 0, rfl, Nat.le_refl _, fun j u hj => by simp at hj⟩
  · refine ⟨_, cap, rfl, hn, fun j u hj => ⟨_, rfl, ?_⟩⟩
    have ha : (⟨g, 0, none⟩ : Addr).add j = ⟨g, j, none⟩ := by unfold Addr.add; split <;> simp_all
    rw [ha]; exact hc j u hj

section
variable {P : Program} {ops : Array Oper} {rest : List Oper} {o : Oper} {a : Act} {Q : Exit → Act → World → Prop}
/-- append(v, y): behind 'at_builtin'; the goal's world is 'W.alloc' of the variadic's box. -/
theorem ap_c {W : World} (base : Nat) (hgd : o.guard = none) (s x : Operand) (t e : TypeId) (z : Value) (bytes : Nat)
    (ho : o.op = .call { callee := .builtin .append, args := #[s, x], argTypes := #[t, t] })
    (ht : P.underlying t = some (.slice e)) (hinfo : (P.info? e).map (fun i => (i.zero, i.size, i.bytes)) = some (some z, 1, bytes)) (hz : z.cells.size = 1) (hb0 : 0 < bytes)
    (v : Value) (n : Nat) (xs : List Value) (y : Value) (hs : a.eval s = v) (hx : a.eval x = .slice (some ⟨W.heap.size, 0, none⟩) 1 1) (h1 : y.oneCell' = true)
    (HO : OwnC W base v n xs) (hbase : base ≤ W.heap.size) (hl : (n + 1) * bytes ≤ 140737488355328)
    (h : ∀ v1 w1, OwnC w1 base v1 (n + 1) (xs ++ [y]) → W.grownBy w1 v.ownBlock → (v1.ownBlock = v.ownBlock ∨ ∃ b, v1.ownBlock = some b ∧ W.heap.size ≤ b) → wpList P ops Q rest (a.put o.dst v1) w1) :
    wpList P ops Q (o :: rest) a (W.alloc (.cells #[y] e)) := by
  obtain ⟨i0, hi, hzz⟩ := Option.map_eq_some_iff.1 hinfo
  simp only [Prod.mk.injEq] at hzz
  obtain ⟨hz0, hz1, hz2⟩ := hzz
  have hlen : n + 1 ≤ 140737488355328 := Nat.le_trans (Nat.le_mul_of_pos_right _ hb0) hl
  have hml : n + 1 ≤ maxLen := by unfold maxLen; omega
  have hnew : ∀ j u, [y][j]? = some u → (W.alloc (.cells #[y] e)).cell? ((⟨W.heap.size, 0, none⟩ : Addr).add j) = some u :=
    World.news_of_block (cs := #[y]) (t := e) (fr := (0, 0)) (heap_alloc_new W (.cells #[y] e))
  obtain ⟨h0, _, HO⟩ := HO
  rcases HO with ⟨rfl, rfl⟩ | ⟨g, cap, rfl, hb, hlg, hn, hc, hf⟩
  · have hx0 : xs = [] := List.eq_nil_of_length_eq_zero h0
    subst hx0
    refine ap_cells base hgd s x t e z 1 bytes ho ht hinfo hz (by omega) hb0 (.slice none 0 0) 0 [] [y] hs hx rfl (List.forall_mem_singleton.2 h1) (own_nil' W base e 1) hbase hl ?_
    intro v1 w1 ho1 hg1 hat1
    exact h v1 w1 (OwnC.of_own ho1) hg1 hat1
  · have hcell : ∀ a : Addr, a.block = g → (W.alloc (.cells #[y] e)).cell? a = W.cell? a := fun a ha => World.cell?_alloc_lt _ _ _ (by rw [ha]; exact hlg)
    have hfro : ∀ a : Addr, a.block = g → (W.alloc (.cells #[y] e)).frozen? a = W.frozen? a := fun a ha => World.frozen?_alloc_old _ _ _ (by rw [ha]; omega)
    refine wpList_append_arg (W.alloc (.cells #[y] e)) hgd s x t ho e i0 z 1 bytes ht hi hz0 hz1 hz2 hz (by omega) g 0 n cap xs hs (by omega) (fun j u hj => ?_) ⟨W.heap.size, 0, none⟩ 1 1 [y] hx rfl hnew (List.forall_mem_singleton.2 h1) ?_ hml hl ?_ ?_
    · rw [hcell _ rfl, Nat.zero_add]; exact hc j u hj
    · intro hr j hj
      have hj0 : j = 0 := by simpa using hj
      subst hj0
      rw [hcell _ rfl, hfro _ rfl]
      have := hf n (Nat.le_refl _) (by omega)
      simpa using this
    · intro hr
      have hsc : (W.alloc (.cells #[y] e)).setCells g (0 + n * 1) [y] = (W.alloc (.cells #[y] e)).setCell ⟨g, n, none⟩ y := by simp [World.setCells]
      rw [hsc]
      have hg : W.grownBy ((W.alloc (.cells #[y] e)).setCell ⟨g, n, none⟩ y) (some g) :=
        ⟨rfl, rfl, rfl, by simp, fun k hk hne => (Below.heap_setCell _ _ _ _ (fun e => hne (by rw [e]))).trans (Below.heap_alloc _ _ _ hk)⟩
      refine h _ _ ⟨by simp [h0], hml, .inr ⟨g, cap, rfl, hb, by simp; omega, hr, fun j u hj => ?_, fun j hj1 hj2 => ?_⟩⟩ hg (.inl rfl)
      · by_cases hjn : j < xs.length
        · rw [List.getElem?_append_left hjn] at hj
          rw [World.cell?_setCell_other _ _ _ _ (by intro e; injection e with _ e _; omega), hcell _ rfl]
          exact hc j u hj
        · have hjl := (List.getElem?_eq_some_iff.1 hj).1
          simp at hjl
          have hjn' : j = n := by omega
          subst hjn'
          rw [List.getElem?_append_right (by omega), h0, Nat.sub_self] at hj
          simp at hj
          subst hj
          obtain ⟨q, hq⟩ := Option.isSome_iff_exists.1 (hf j (Nat.le_refl _) (by omega)).1
          exact World.cell?_setCell_same _ _ _ (u := q) (by rw [hcell _ rfl]; exact hq)
      · rw [World.cell?_setCell_other _ _ _ _ (by intro e; injection e with _ e _; omega), World.frozen?_setCell, hcell _ rfl, hfro _ rfl]
        exact hf j (by omega) hj2
    · intro hr v' w' ho1 hg1
      have hsz : W.heap.size ≤ (W.alloc (.cells #[y] e)).heap.size := by simp
      refine h v' w' (OwnC.of_own (own_lower ho1 (by simp; omega))) ?_ ?_
      · exact ⟨hg1.os, hg1.tape, hg1.output, Nat.le_trans hsz hg1.size, fun k hk hne => (hg1.block k (by simp; omega) (by simp)).trans (Below.heap_alloc _ _ _ hk)⟩
      · rcases ho1.2 with ⟨rfl, hz⟩ | ⟨g', cap', cur', rfl, hb', _⟩
        · omega
        · exact .inr ⟨g', rfl, by simp at hb'; omega⟩
end

/-! ### texts -/
def bcell (b : UInt8) : Value := .int .u8 (b.toNat : Int)
def strOf (l : List UInt8) : ByteArray := ⟨l.toArray⟩
theorem OwnC.string {P : Program} {w : World} {base n : Nat} {v : Value} {l : List UInt8} (src dst e : TypeId) (hs : P.underlying src = some (.slice e)) (he : P.underlying e = some (.int .u8)) (hd : P.underlying dst = some .string)
    (h : OwnC w base v n (l.map bcell)) : (convert src dst v).run P w = .ok (.string (strOf l)) w := by
  have hl : l.length = n := by simpa using h.1
  have hstr : strOfNums (l.map fun b => (b.toNat : Int)) = strOf l := by
    unfold strOfNums strOf
    rw [List.map_map]
    congr 2
    conv => rhs; rw [← List.map_id l]
    apply List.map_congr_left
    intro b _
    simp
  rcases h.2.2 with ⟨rfl, rfl⟩ | ⟨g, cap, rfl, hb, hlg, hn, hc, hf⟩
  · have : l = [] := List.eq_nil_of_length_eq_zero hl
    subst this
    exact run_convert_bytes_nil w src e hs he 0 0 dst hd
  · rw [← hstr]
    refine run_convert_bytes_arg w src e hs he g 0 n cap (l.map fun b => (b.toNat : Int)) (by simpa using hl) (fun i hi => ?_) dst hd
    rw [Nat.zero_add]
    have := hc i (bcell l[i]) (by simp [List.getElem?_eq_getElem (show i < l.length by omega)])
    rw [this]
    simp [bcell, List.getD_eq_getElem?_getD, List.getElem?_eq_getElem (show i < l.length by omega)]
/-- '[]byte(s)'. -/
theorem OwnC.bytes (w : World) (e : TypeId) (s : ByteArray) (hs : s.size ≤ maxLen) : OwnC (Lib.bytesWorld w e s) w.heap.size (.slice (some ⟨w.heap.size, 0, none⟩) s.size (grownCap w s.size 0 e)) s.size (s.data.toList.map bcell) := by
  have hge := grownCap_ge w s.size 0 e
  have hnew := Lib.bytesWorld_at_new w e s
  have hcs : (Lib.bytesCells w e s).size = grownCap w s.size 0 e := by
    unfold Lib.bytesCells
    rw [Array.size_append, Array.size_map, Array.size_replicate]
    have : s.data.size = s.size := rfl
    omega
  refine ⟨by simp, hs, .inr ⟨w.heap.size, _, rfl, Nat.le_refl _, by rw [Lib.bytesWorld_size]; omega, hge, fun j u hj => ?_, fun j h1 h2 => ⟨?_, ?_⟩⟩⟩
  · have hjl := (List.getElem?_eq_some_iff.1 hj).1
    rw [List.length_map, Array.length_toList] at hjl
    have hjs : j < s.size := hjl
    rw [Lib.bytesWorld_cell w e s j hjs]
    rw [List.getElem?_map, List.getElem?_eq_getElem (by rw [Array.length_toList]; exact hjl)] at hj
    simp only [Option.map_some, Option.some.injEq] at hj
    rw [← hj]
    simp [bcell, List.getD_eq_getElem?_getD, List.getElem?_eq_getElem, hjl]
    rw [Array.getElem?_eq_getElem hjl]; rfl
  · simp only [World.cell?, hnew]
    simp [hcs]; omega
  · simp only [World.frozen?, hnew]
    simp; omega
theorem bytesWorld_below (w : World) (e : TypeId) (s : ByteArray) : Below w.heap.size w (Lib.bytesWorld w e s) :=
  ⟨rfl, rfl, rfl, by rw [Lib.bytesWorld_size]; omega, fun k hk => Lib.bytesWorld_at_old w e s k hk⟩
end Go.Proofs.Yteifpdpppndipaa
