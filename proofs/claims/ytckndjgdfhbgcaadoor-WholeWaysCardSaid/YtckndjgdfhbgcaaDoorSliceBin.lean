
/- slices.Insert and slices.Delete at the bins of hist: what they do to a row that is owned. No condition. -/
import Derived.Test.YtckndjgdfhbgcaaDoorSliceRow
import Derived.Test.YtckndjgdfhbgcaaDoorHistPure
import Derived.Test.YtckndjgdfhbgcaaDoorSat
import Derived.Deep.RegionLaw
namespace Go.Proofs.YtckndjgdfhbgcaaDoor
set_option maxRecDepth 100000
set_option linter.unusedSimpArgs false
open Go.RowKit
set_option linter.unusedVariables false

def fBin (b : Int × Nat) : List Value := [.int .i64 b.1, .int .i64 (b.2 : Int)]
def binC : List (Int × Nat) → List Value
  | [] => []
  | b :: bs => .int .i64 b.1 :: .int .i64 (b.2 : Int) :: binC bs
theorem binC_len : ∀ bs, (binC bs).length = bs.length * 2
  | [] => rfl
  | b :: bs => by simp [binC, binC_len bs]; omega
theorem binC_app : ∀ a b, binC (a ++ b) = binC a ++ binC b
  | [], b => rfl
  | x :: a, b => by simp [binC, binC_app a b]
theorem binC_take : ∀ (bs : List (Int × Nat)) (i : Nat), (binC bs).take (i * 2) = binC (bs.take i)
  | [], i => by simp [binC]
  | b :: bs, 0 => by simp [binC]
  | b :: bs, i + 1 => by rw [show (i + 1) * 2 = i * 2 + 2 by omega]; simp [binC, binC_take bs i]
theorem binC_drop : ∀ (bs : List (Int × Nat)) (i : Nat), (binC bs).drop (i * 2) = binC (bs.drop i)
  | [], i => by simp [binC]
  | b :: bs, 0 => by simp [binC]
  | b :: bs, i + 1 => by rw [show (i + 1) * 2 = i * 2 + 2 by omega]; simp [binC, binC_drop bs i]
theorem binC_one : ∀ bs, ∀ v ∈ binC bs, v.oneCell' = true
  | [], v, h => by cases h
  | b :: bs, v, h => by
    rw [binC] at h
    rcases List.mem_cons.1 h with h | h
    · rw [h]; rfl
    · rcases List.mem_cons.1 h with h | h
      · rw [h]; rfl
      · exact binC_one bs v h
theorem binC_get : ∀ {bs : List (Int × Nat)} {j : Nat} {b : Int × Nat}, bs[j]? = some b → (binC bs)[j * 2]? = some (.int .i64 b.1) ∧ (binC bs)[j * 2 + 1]? = some (.int .i64 (b.2 : Int))
  | [], j, b, h => by simp at h
  | x :: bs, 0, b, h => by simp at h; subst h; exact ⟨rfl, rfl⟩
  | x :: bs, j + 1, b, h => by
    have := binC_get (bs := bs) (j := j) (b := b) (by simpa using h)
    rw [show (j + 1) * 2 = j * 2 + 1 + 1 by omega]
    exact ⟨by simpa [binC] using this.1, by simpa [binC] using this.2⟩
theorem shift_take {cur P X D : List Value} {i n : Nat} (hP : cur.take (i * 2) = P) (hX : X.length = 2) (hD : D.length = (n - i) * 2) (hi : i ≤ n) (hl : (n + 1) * 2 ≤ cur.length) :
    (splice (splice cur (i * 2 + 2) D) (i * 2) X).take ((n + 1) * 2) = P ++ (X ++ D) := by
  have h1 : (splice cur (i * 2 + 2) D) = cur.take (i * 2 + 2) ++ (D ++ cur.drop (i * 2 + 2 + D.length)) := rfl
  have h2 : (splice cur (i * 2 + 2) D).take (i * 2) = P := by
    rw [h1, List.take_append_of_le_length (by simp; omega), List.take_take, Nat.min_eq_left (by omega), hP]
  have h3 : (splice cur (i * 2 + 2) D).drop (i * 2 + 2) = D ++ cur.drop (i * 2 + 2 + D.length) := by
    rw [h1]; exact List.drop_left' (by simp; omega)
  have hPl : P.length = i * 2 := by rw [← hP, List.length_take]; omega
  rw [show splice (splice cur (i * 2 + 2) D) (i * 2) X = (splice cur (i * 2 + 2) D).take (i * 2) ++ (X ++ (splice cur (i * 2 + 2) D).drop (i * 2 + X.length)) from rfl, hX, h2, h3, ← List.append_assoc X, ← List.append_assoc P]
  exact List.take_left' (by simp [hPl, hX, hD]; omega)
theorem grow_take {row P X D : List Value} {i n : Nat} (hP : row.take (i * 2) = P) (hX : X.length = 2) (hD : D.length = (n - i) * 2) (hi : i ≤ n) (hl : (n + 1) * 2 ≤ row.length) :
    (splice (splice row (i * 2) X) (i * 2 + 2) D).take ((n + 1) * 2) = P ++ (X ++ D) := by
  have h1 : splice row (i * 2) X = P ++ (X ++ row.drop (i * 2 + X.length)) := by rw [← hP]; rfl
  have hPl : P.length = i * 2 := by rw [← hP, List.length_take]; omega
  have h2 : (splice row (i * 2) X).take (i * 2 + 2) = P ++ X := by
    rw [h1, ← List.append_assoc]; exact List.take_left' (by simp [hPl, hX])
  rw [show splice (splice row (i * 2) X) (i * 2 + 2) D = (splice row (i * 2) X).take (i * 2 + 2) ++ (D ++ (splice row (i * 2) X).drop (i * 2 + 2 + D.length)) from rfl, h2, ← List.append_assoc (P ++ X)]
  rw [List.take_left' (by simp [hPl, hX, hD]; omega), List.append_assoc]
theorem cutA_at (g lo sz c : Nat) (h : c ≠ lo) : cutA (some ⟨g, 0, none⟩) lo sz c = some ⟨g, lo * sz, none⟩ := by
  unfold cutA
  rw [if_neg h, Option.map_some, Addr.add_lit, Nat.zero_add]
theorem Blk.at_take {w : World} {g : Nat} {t : TypeId} {cur : Array Value} {xs : List Value} {m o : Nat} (h : Blk w g t cur) (ht : cur.toList.take m = xs) (ys : List Value) (hy : xs.drop o = ys) : ∀ j v, ys[j]? = some v → w.cell? ((⟨g, o, none⟩ : Addr).add j) = some v := by
  intro j v hj
  rw [Addr.add_lit, h.cell]
  rw [← hy, List.getElem?_drop, ← ht, List.getElem?_take] at hj
  split at hj
  · simpa using hj
  · cases hj

set_option maxHeartbeats 4000000 in
theorem slices_InsertB (B vb i : Nat) (v : Value) (bs : List (Int × Nat)) (x : Int × Nat) (W : World) (HO : W.ownsRow B 67 2 v bs.length (binC bs)) (hvb : Blk W vb 67 (fBin x).toArray) (hne : v.ownBlock ≠ some vb)
    (hi : i ≤ bs.length) (hn : bs.length ≤ 100000) (hB : B ≤ W.heap.size) :
    Calls Tryd.prog 35 #[v, .int .i64 i, .slice (some ⟨vb, 0, none⟩) 1 1] W fun e w' => ∃ v', e = .returned v' ∧ w'.ownsRow B 67 2 v' (bs.length + 1) (binC (bs.take i ++ x :: bs.drop i)) ∧
      Mod (fun k => v.ownBlock = some k) W w' ∧ (v'.ownBlock = v.ownBlock ∨ ∃ b, v'.ownBlock = some b ∧ W.heap.size ≤ b) := by
  obtain ⟨A, c, rfl, hnc, hcm, -⟩ := own_rd HO
  obtain ⟨i0, hi0, hz⟩ := Option.map_eq_some_iff.1 (show (Tryd.prog.info? 67).map (fun i => (i.zero, i.size, i.bytes)) = some (some (.agg #[.int .i64 0, .int .i64 0]), 2, 16) by kernel_rfl)
  simp only [Prod.mk.injEq] at hz
  obtain ⟨hz0, hz1, hz2⟩ := hz
  have hx1 : ∀ u ∈ fBin x, u.oneCell' = true := by
    intro u hu
    unfold fBin at hu
    simp at hu
    rcases hu with h | h <;> rw [h] <;> rfl
  by_cases hend : i = bs.length
  · subst hend
    have hcut := cut_l (P := Tryd.prog) 49 67 2 Tryd.underlying49 (by kernel_rfl) A bs.length c bs.length (Nat.le_refl _)
    have HH := hid' HO
    have hbin : binC (bs.take bs.length ++ x :: bs.drop bs.length) = binC bs ++ fBin x := by
      rw [binC_app, List.take_length, List.drop_length]; rfl
    rw [hbin]
    clear HO hbin
    go_enter Tryd.func35, Tryd.ntmps35
    go_wp2_with (at_builtin; refine wpList_append_own_at _ rfl _ _ 49 rfl B 67 i0 (.agg #[.int .i64 0, .int .i64 0]) 2 16 (by kernel_rfl) hi0 hz0 hz1 hz2 rfl (by decide) _ _ _ rfl HH.out ⟨vb, 0, none⟩ 1 1 (fBin x) rfl rfl (World.news_of_block hvb) hx1 (by unfold maxLen; omega) (by omega) hB ?_)
    intro v1 w1 hown hg _ hat
    go_wp2
    go_ret
    refine ⟨v1, rfl, hown, (Mod.of_grown hg).mono (fun k _ h => h), ?_⟩
    rcases hat with h | h
    · exact .inl h
    · exact .inr ⟨_, h, Nat.le_refl _⟩
  · have hlt : i < bs.length := by omega
    obtain ⟨P, hP⟩ : ∃ P, P = binC (bs.take i) := ⟨_, rfl⟩
    obtain ⟨D, hD⟩ : ∃ D, D = binC (bs.drop i) := ⟨_, rfl⟩
    have hPl : P.length = i * 2 := by rw [hP, binC_len, List.length_take]; omega
    have hDl : D.length = (bs.length - i) * 2 := by rw [hD, binC_len, List.length_drop]
    have hXl : (fBin x).length = 2 := rfl
    have hD1 : ∀ u ∈ D, u.oneCell' = true := by rw [hD]; exact binC_one _
    have hres : binC (bs.take i ++ x :: bs.drop i) = P ++ (fBin x ++ D) := by rw [binC_app, hP, hD]; rfl
    have hPt : (binC bs).take (i * 2) = P := by rw [hP, binC_take]
    have hDt : (binC bs).drop (i * 2) = D := by rw [hD, binC_drop]
    rw [hres]
    rcases HO.2 with ⟨_, h0⟩ | ⟨g, c', cur, he, hBg, hh, h1, h2, h3, h4⟩
    · omega
    injection he with hA hnn hc
    subst hA hc
    have hblk : Blk W g 67 cur := hh
    have hgv : g ≠ vb := fun e => hne (by rw [← e]; rfl)
    clear hh hnn HO hP hD hres
    obtain ⟨n, hnn⟩ : ∃ n, n = bs.length := ⟨_, rfl⟩
    rw [← hnn] at hi hn hend hlt hnc hDl h1 h4 ⊢
    clear hnn
    obtain ⟨i1, hi1⟩ : ∃ i1 : Nat, i1 = i + 1 := ⟨_, rfl⟩
    obtain ⟨n1, hn1⟩ : ∃ n1 : Nat, n1 = n + 1 := ⟨_, rfl⟩
    have z1 : (i : Int) + 1 = (i1 : Int) := by omega
    have z2 : (n : Int) + 1 = (n1 : Int) := by omega
    have hcut := cut_l (P := Tryd.prog) 49 67 2 Tryd.underlying49 (by kernel_rfl) (some ⟨g, 0, none⟩) n c i (by omega)
    have hc63 : c ≤ 9223372036854775807 := h2
    by_cases hroom : n1 ≤ c
    · have hcut1 := cut_h (P := Tryd.prog) 49 67 2 Tryd.underlying49 (by kernel_rfl) (some ⟨g, 0, none⟩) n c n1 hroom
      have hcut2 : ∀ W, (Instr.slice 49 (.slice (some ⟨g, 0, none⟩) n1 c) (some (.int .i64 (i1 : Int))) none none).run Tryd.prog W = .ok (.slice (some ⟨g, i1 * 2, none⟩) (n1 - i1) (c - i1)) W := fun W => by
        rw [cut_l (P := Tryd.prog) 49 67 2 Tryd.underlying49 (by kernel_rfl) (some ⟨g, 0, none⟩) n1 c i1 (by omega), cutA_at g i1 2 c (by omega)]
      have hcut3 : ∀ W, (Instr.slice 49 (.slice (some ⟨g, 0, none⟩) n1 c) (some (.int .i64 (i : Int))) none none).run Tryd.prog W = .ok (.slice (some ⟨g, i * 2, none⟩) (n1 - i) (c - i)) W := fun W => by
        rw [cut_l (P := Tryd.prog) 49 67 2 Tryd.underlying49 (by kernel_rfl) (some ⟨g, 0, none⟩) n1 c i (by omega), cutA_at g i 2 c (by omega)]
      have hov : (callFunc 41 #[.slice (some ⟨vb, 0, none⟩) 1 1, .slice (some ⟨g, i1 * 2, none⟩) (n1 - i1) (c - i1)]).run Tryd.prog W = .ok (.value (.bool false)) W := by
        rw [run_callFunc_extern Tryd.func41 (by kernel_rfl) (by kernel_rfl) (by kernel_rfl) (e := Extern.SlicesOverlaps.overlaps #[49, 49] #[4]) (by kernel_rfl),
          Lib.run_overlaps_apart W 49 4 67 Tryd.underlying49 2 (by intro w; kernel_rfl) ⟨vb, 0, none⟩ ⟨g, i1 * 2, none⟩ 1 1 (n1 - i1) (c - i1) (Ne.symm hgv) 67 67 2 cur.size hvb.shape hblk.shape (by omega) (hvb.frozen 0) (hvb.frozen 2)]
        rfl
      have hcpA : ∀ (ty : TypeId) (W' : World), Dr W W' → ∃ W3, (Builtin.copy_ #[49, 49] ty #[.slice (some ⟨g, i1 * 2, none⟩) (n1 - i1) (c - i1), .slice (some ⟨g, i * 2, none⟩) (n1 - i) (c - i)]).run Tryd.prog W' = .ok (goInt (min (n1 - i) (n1 - i1) : Nat)) W3 ∧
          Hid (Blk W3 g 67 (splice cur.toList (i * 2 + 2) D).toArray ∧ Mod (fun k => k = g) W W3) := fun ty W' hd => by
        have hb : Blk W' g 67 cur := by obtain ⟨q, rfl⟩ := hd; exact hblk
        have := run_copy_rowK W' 49 49 ty 67 2 g (i1 * 2) (n1 - i1) (c - i1) ⟨g, i * 2, none⟩ (n1 - i) (c - i) cur 67 D Tryd.underlying49 (by kernel_rfl) hb (by rw [hDl, Nat.min_eq_right (by omega)]; congr 1; omega) (hb.at_take h4 D hDt) (by rw [hDl]; omega) hD1
        refine ⟨_, this, ?_, ?_⟩
        · rw [show i1 * 2 = i * 2 + 2 by omega]; exact setRow_blk hb _
        · exact (hd.mod).trans (setRow_mod _ _ _)
      have hcpB : ∀ (ty : TypeId) (W' W'' : World), Blk W' g 67 (splice cur.toList (i * 2 + 2) D).toArray ∧ Mod (fun k => k = g) W W' → Dr W' W'' → ∃ W3, (Builtin.copy_ #[49, 49] ty #[.slice (some ⟨g, i * 2, none⟩) (n1 - i) (c - i), .slice (some ⟨vb, 0, none⟩) 1 1]).run Tryd.prog W'' = .ok (goInt (min 1 (n1 - i) : Nat)) W3 ∧
          Hid (Blk W3 g 67 (splice (splice cur.toList (i * 2 + 2) D) (i * 2) (fBin x)).toArray ∧ Mod (fun k => k = g) W W3) := fun ty W' W'' hW hd => by
        have hb : Blk W'' g 67 (splice cur.toList (i * 2 + 2) D).toArray := by obtain ⟨q, rfl⟩ := hd; exact hW.1
        have hv1 : Blk W' vb 67 (fBin x).toArray := hvb.mod hW.2 (Ne.symm hgv)
        have hv2 : Blk W'' vb 67 (fBin x).toArray := by obtain ⟨q, rfl⟩ := hd; exact hv1
        have := run_copy_rowK W'' 49 49 ty 67 2 g (i * 2) (n1 - i) (c - i) ⟨vb, 0, none⟩ 1 1 _ 67 (fBin x) Tryd.underlying49 (by kernel_rfl) hb (by rw [hXl, Nat.min_eq_left (by omega)]) (World.news_of_block hv2) (by rw [List.size_toArray, length_splice _ _ _ (by rw [hDl, Array.length_toList]; omega), hXl, Array.length_toList]; omega) hx1
        refine ⟨_, this, ?_, ?_⟩
        · exact setRow_blk hb _
        · exact hW.2.trans ((hd.mod).trans (setRow_mod _ _ _))
      have hlen : cur.toList.length = c * 2 := by rw [Array.length_toList, h3]
      have hfin : (splice (splice cur.toList (i * 2 + 2) D) (i * 2) (fBin x)).take ((n + 1) * 2) = P ++ (fBin x ++ D) :=
        shift_take (by rw [← hPt, ← h4, List.take_take, Nat.min_eq_left (by omega)]) hXl hDl (by omega) (by omega)
      have hfl : (splice (splice cur.toList (i * 2 + 2) D) (i * 2) (fBin x)).length = c * 2 := by
        rw [length_splice _ _ _ (by rw [length_splice _ _ _ (by rw [hDl]; omega), hXl]; omega), length_splice _ _ _ (by rw [hDl]; omega), hlen]
      have HF := hid' (And.intro hfin hfl)
      have HA := hid' hcpA
      have HBB := hid' hcpB
      have HL := hid' (And.intro hPl (And.intro hDl hXl))
      have HN1 := hid' hn1
      have hw1 : IntKind.i64.wrap (i1 : Int) = (i1 : Int) := by rw [IntKind.wrap_i64]; omega
      have hw2 : IntKind.i64.wrap (n1 : Int) = (n1 : Int) := by rw [IntKind.wrap_i64]; omega
      have hne1 : ¬ (i : Int) = (n : Int) := by omega
      have hr1 : ¬ (c : Int) < (n1 : Int) := by omega
      have g1 : (0 : Int) ≤ (i1 : Int) := by omega
      have g2 : (i1 : Int) ≤ (n1 : Int) := by omega
      have g3 : (i : Int) ≤ (n1 : Int) := by omega
      have g4 : (n1 : Int) ≤ (c : Int) := by omega
      clear hi1 hn1
      clear hcpA hcpB hfin hfl hblk hvb hPt hDt h4 hPl hDl hXl hlen h3
      go_enter Tryd.func35, Tryd.ntmps35
      go_wp2_with (simp only [hov])
      go_region_law (refine step_copy_ex rfl (.tmp 73) (.tmp 76) 49 49 rfl _ _ _ (by simp [Act.eval, Act.put]) (by simp [Act.eval, Act.put]) _ (HA.out _ _ (by repeat (first | exact Dr.refl _ | apply Dr.step | apply Dr.stepd))) ?_; intro W3 hW3)
      go_wp2_with (refine wpList_copy_ex rfl _ _ 49 49 rfl (.slice (some ⟨g, i * 2, none⟩) (n1 - i) (c - i)) (.slice (some ⟨vb, 0, none⟩) 1 1) _ rfl rfl _ (HBB.out _ _ _ hW3.out (by repeat (first | exact Dr.refl _ | apply Dr.step | apply Dr.stepd))) ?_; intro W4 hW4)
      go_wp2
      go_ret
      obtain ⟨hb4, hm4⟩ := hW4.out
      refine ⟨_, rfl, ⟨?_, .inr ⟨g, c, _, by rw [← HN1.out]; rfl, hBg, hb4, by have := HN1.out; omega, h2, ?_, ?_⟩⟩, ?_, .inl rfl⟩
      · have := HL.out; have := HN1.out; simp; omega
      · rw [List.size_toArray, HF.out.2]
      · exact HF.out.1
      · exact hm4.mono (fun k _ h => by rw [h]; rfl)
    · obtain ⟨K, hK⟩ : ∃ K : Nat, K = n1 - i := ⟨_, rfl⟩
      have z3 : (n1 : Int) - (i : Int) = (K : Int) := by omega
      have hiK : i + K = n1 := by omega
      have hcuth := cut_h (P := Tryd.prog) 49 67 2 Tryd.underlying49 (by kernel_rfl) (some ⟨g, 0, none⟩) n c i (by omega)
      have hcutS : ∀ W, (Instr.slice 49 (.slice (some ⟨g, 0, none⟩) n c) (some (.int .i64 (i : Int))) none none).run Tryd.prog W = .ok (.slice (some ⟨g, i * 2, none⟩) (n - i) (c - i)) W := fun W => by
        rw [hcut, cutA_at g i 2 c (by omega)]
      obtain ⟨N, hN⟩ : ∃ N, N = W.heap.size := ⟨_, rfl⟩
      obtain ⟨G, hG⟩ : ∃ G, G = grownCap W n1 c 67 := ⟨_, rfl⟩
      have hGn : n1 ≤ G := by rw [hG]; exact grownCap_ge W _ _ _
      have hG63 : G ≤ maxLen := by
        have := grownCap_le_maxLen W n1 c 67 (by unfold maxLen; omega)
        rw [← hG] at this; exact this
      obtain ⟨ROW, hROW⟩ : ∃ ROW : Array Value, ROW = P.toArray ++ Builtin.zeroCells (Value.agg #[.int .i64 0, .int .i64 0]).cells K ++ Builtin.zeroCells (Value.agg #[.int .i64 0, .int .i64 0]).cells (G - n1) := ⟨_, rfl⟩
      have hRs : ROW.size = G * 2 := by
        rw [hROW]
        simp [Builtin.zeroCells, Value.cells, hPl]
        omega
      have hRt : ROW.toList.take (i * 2) = P := by
        rw [hROW, Array.append_assoc, Array.toList_append, List.toList_toArray]
        exact List.take_left' hPl
      have hap : ∀ (ty : TypeId), ∃ W1, (Builtin.append_ #[49, 3] ty #[.slice (some ⟨g, 0, none⟩) i c, .int .i64 (K : Int)]).run Tryd.prog W = .ok (.slice (some ⟨N, 0, none⟩) n1 G) W1 ∧ Hid (Blk W1 N 67 ROW ∧ Below W.heap.size W W1) := fun ty => by
        have hold : (Builtin.firstCells i0.size i (.slice (some ⟨g, 0, none⟩) i c)).run Tryd.prog W.drew = .ok P.toArray W.drew := by
          rw [hz1]
          exact run_firstCells_some W.drew 2 i ⟨g, 0, none⟩ i c P hPl (fun j v hj => by
            rw [← hPt] at hj
            exact hblk.at_take (o := 0) h4 (binC bs) (by simp) j v (by rw [List.getElem?_take] at hj; split at hj; exact hj; cases hj))
        have h := Lib.run_append_grow_zeros (P := Tryd.prog) W 49 3 ty 67 i0 _ .i64 .i64 Tryd.underlying49 Tryd.underlying3 hi0 hz0 (some ⟨g, 0, none⟩) i c P hold K (by omega) (by omega) (by omega) (by omega) (by rw [hz2]; omega)
          (by rw [hz2, hiK]; exact growslice_fits (by omega) (by omega))
        rw [hiK, ← hG, ← hROW, ← hN] at h
        refine ⟨_, h, ?_, ?_⟩
        · rw [hN]; exact Blk.new_ W.drew _ _
        · exact bel_alloc (bel_drew (bel_refl W)) _
      have hcN : ∀ W, (Instr.slice 49 (.slice (some ⟨N, 0, none⟩) n1 G) (some (.int .i64 (i : Int))) none none).run Tryd.prog W = .ok (.slice (some ⟨N, i * 2, none⟩) (n1 - i) (G - i)) W := fun W => by
        rw [cut_l (P := Tryd.prog) 49 67 2 Tryd.underlying49 (by kernel_rfl) (some ⟨N, 0, none⟩) n1 G i (by omega), cutA_at N i 2 G (by omega)]
      have hcN1 : ∀ W, (Instr.slice 49 (.slice (some ⟨N, 0, none⟩) n1 G) (some (.int .i64 (i1 : Int))) none none).run Tryd.prog W = .ok (.slice (some ⟨N, i1 * 2, none⟩) (n1 - i1) (G - i1)) W := fun W => by
        rw [cut_l (P := Tryd.prog) 49 67 2 Tryd.underlying49 (by kernel_rfl) (some ⟨N, 0, none⟩) n1 G i1 (by omega), cutA_at N i1 2 G (by omega)]
      have hgl : g < W.heap.size := hblk.lt
      have hvl : vb < W.heap.size := hvb.lt
      have hcpA : ∀ (ty : TypeId) (W' W'' : World), Blk W' N 67 ROW ∧ Below W.heap.size W W' → Dr W' W'' → ∃ W3, (Builtin.copy_ #[49, 49] ty #[.slice (some ⟨N, i * 2, none⟩) (n1 - i) (G - i), .slice (some ⟨vb, 0, none⟩) 1 1]).run Tryd.prog W'' = .ok (goInt (min 1 (n1 - i) : Nat)) W3 ∧
          Hid (Blk W3 N 67 (splice ROW.toList (i * 2) (fBin x)).toArray ∧ Below W.heap.size W W3) := fun ty W' W'' hW hd => by
        have hv1 : Blk W' vb 67 (fBin x).toArray := hvb.below hW.2
        have hv2 : Blk W'' vb 67 (fBin x).toArray := by obtain ⟨q, rfl⟩ := hd; exact hv1
        have hb : Blk W'' N 67 ROW := by obtain ⟨q, rfl⟩ := hd; exact hW.1
        have := run_copy_rowK W'' 49 49 ty 67 2 N (i * 2) (n1 - i) (G - i) ⟨vb, 0, none⟩ 1 1 _ 67 (fBin x) Tryd.underlying49 (by kernel_rfl) hb (by rw [hXl, Nat.min_eq_left (by omega)]) (World.news_of_block hv2) (by rw [hRs, hXl]; omega) hx1
        refine ⟨_, this, ?_, ?_⟩
        · exact setRow_blk hb _
        · exact below_setRow (bel_then hW.2 hd.below) (by omega) _
      have hcpB : ∀ (ty : TypeId) (W' W'' : World), Blk W' N 67 (splice ROW.toList (i * 2) (fBin x)).toArray ∧ Below W.heap.size W W' → Dr W' W'' → ∃ W3, (Builtin.copy_ #[49, 49] ty #[.slice (some ⟨N, i1 * 2, none⟩) (n1 - i1) (G - i1), .slice (some ⟨g, i * 2, none⟩) (n - i) (c - i)]).run Tryd.prog W'' = .ok (goInt (min (n - i) (n1 - i1) : Nat)) W3 ∧
          Hid (Blk W3 N 67 (splice (splice ROW.toList (i * 2) (fBin x)) (i * 2 + 2) D).toArray ∧ Below W.heap.size W W3) := fun ty W' W'' hW hd => by
        have hv1 : Blk W' g 67 cur := hblk.below hW.2
        have hv2 : Blk W'' g 67 cur := by obtain ⟨q, rfl⟩ := hd; exact hv1
        have hb : Blk W'' N 67 (splice ROW.toList (i * 2) (fBin x)).toArray := by obtain ⟨q, rfl⟩ := hd; exact hW.1
        have := run_copy_rowK W'' 49 49 ty 67 2 N (i1 * 2) (n1 - i1) (G - i1) ⟨g, i * 2, none⟩ (n - i) (c - i) _ 67 D Tryd.underlying49 (by kernel_rfl) hb (by rw [hDl]; congr 1; omega) (hv2.at_take h4 D hDt) (by rw [List.size_toArray, length_splice _ _ _ (by rw [hXl, Array.length_toList]; omega), hDl, Array.length_toList]; omega) hD1
        refine ⟨_, this, ?_, ?_⟩
        · rw [show i1 * 2 = i * 2 + 2 by omega]; exact setRow_blk hb _
        · exact below_setRow (bel_then hW.2 hd.below) (by omega) _
      have hlen : ROW.toList.length = G * 2 := by rw [Array.length_toList, hRs]
      have hfin : (splice (splice ROW.toList (i * 2) (fBin x)) (i * 2 + 2) D).take ((n + 1) * 2) = P ++ (fBin x ++ D) := grow_take hRt hXl hDl (by omega) (by omega)
      have hfl : (splice (splice ROW.toList (i * 2) (fBin x)) (i * 2 + 2) D).length = G * 2 := by
        rw [length_splice _ _ _ (by rw [length_splice _ _ _ (by rw [hXl]; omega), hDl]; omega), length_splice _ _ _ (by rw [hXl]; omega), hlen]
      have HF := hid' (And.intro hfin hfl)
      have HP := hid' hap
      have HA := hid' hcpA
      have HBB := hid' hcpB
      have HL := hid' (And.intro hPl (And.intro hDl hXl))
      have HN1 := hid' hn1
      have HNN := hid' hN
      have hw1 : IntKind.i64.wrap (i1 : Int) = (i1 : Int) := by rw [IntKind.wrap_i64]; omega
      have hw2 : IntKind.i64.wrap (n1 : Int) = (n1 : Int) := by rw [IntKind.wrap_i64]; omega
      have hw3 : IntKind.i64.wrap (K : Int) = (K : Int) := by rw [IntKind.wrap_i64]; omega
      have hne1 : ¬ (i : Int) = (n : Int) := by omega
      have hr1 : (c : Int) < (n1 : Int) := by omega
      have g1 : (0 : Int) ≤ (i1 : Int) := by omega
      have g2 : (i1 : Int) ≤ (n1 : Int) := by omega
      have g3 : (i : Int) ≤ (n1 : Int) := by omega
      have g4 : (0 : Int) ≤ (K : Int) := by omega
      have HI := hid' (show B ≤ N by omega)
      clear hcut hi1 hn1 hK hiK hN hG hROW hRs hRt hlen
      clear hcpA hcpB hfin hfl hblk hvb hPt hDt h4 hPl hDl hXl h3 hap
      go_enter Tryd.func35, Tryd.ntmps35
      go_wp2_with (first
        | (at_builtin; refine wpList_append_ex rfl _ _ 49 3 rfl (.slice (some ⟨g, 0, none⟩) i c) (.int .i64 (K : Int)) _ rfl rfl _ (HP.out _) ?_; intro W1 hW1)
        | (refine wpList_copy_ex rfl _ _ 49 49 rfl (.slice (some ⟨N, i * 2, none⟩) (n1 - i) (G - i)) (.slice (some ⟨vb, 0, none⟩) 1 1) _ rfl rfl _ (HA.out _ _ _ hW1.out (by repeat (first | exact Dr.refl _ | apply Dr.step | apply Dr.stepd))) ?_; intro W2 hW2))
      go_region_law (refine step_copy_ex rfl (.tmp 50) (.tmp 53) 49 49 rfl (.slice (some ⟨N, i1 * 2, none⟩) (n1 - i1) (G - i1)) (.slice (some ⟨g, i * 2, none⟩) (n - i) (c - i)) _ (by simp [Act.eval, Act.put]) (by simp [Act.eval, Act.put]) _ (HBB.out _ _ _ hW2.out (by repeat (first | exact Dr.refl _ | apply Dr.step | apply Dr.stepd))) ?_; intro W4 hW4)
      go_wp2
      go_ret
      obtain ⟨hb4, hm4⟩ := hW4.out
      refine ⟨_, rfl, ⟨?_, .inr ⟨N, G, _, by rw [← HN1.out]; rfl, HI.out, hb4, by have := HN1.out; omega, hG63, ?_, ?_⟩⟩, ?_, .inr ⟨N, rfl, by rw [HNN.out]; exact Nat.le_refl _⟩⟩
      · have := HL.out; have := HN1.out; simp; omega
      · rw [List.size_toArray, HF.out.2]
      · exact HF.out.1
      · exact Mod.of_below hm4

theorem del_take {cur P D Z : List Value} {i n : Nat} (hP : cur.take (i * 2) = P) (hD : D.length = (n - (i + 1)) * 2) (hZ : Z.length = 2) (hi : i < n) (hl : n * 2 ≤ cur.length) :
    (splice (splice cur (i * 2) D) ((n - 1) * 2) Z).take ((n - 1) * 2) = P ++ D := by
  have hPl : P.length = i * 2 := by rw [← hP, List.length_take]; omega
  have h0 : (splice cur (i * 2) D).length = cur.length := length_splice _ _ _ (by rw [hD]; omega)
  rw [show splice (splice cur (i * 2) D) ((n - 1) * 2) Z = (splice cur (i * 2) D).take ((n - 1) * 2) ++ (Z ++ (splice cur (i * 2) D).drop ((n - 1) * 2 + Z.length)) from rfl]
  rw [List.take_left' (by rw [List.length_take, h0]; omega)]
  rw [show splice cur (i * 2) D = cur.take (i * 2) ++ (D ++ cur.drop (i * 2 + D.length)) from rfl, hP, ← List.append_assoc]
  exact List.take_left' (by simp [hPl, hD]; omega)
theorem slices_DeleteB (B i : Nat) (v : Value) (bs : List (Int × Nat)) (W : World) (HO : W.ownsRow B 67 2 v bs.length (binC bs)) (hi : i < bs.length) (hn : bs.length ≤ 100000) :
    Calls Tryd.prog 34 #[v, .int .i64 i, .int .i64 ((i : Int) + 1)] W fun e w' => ∃ v', e = .returned v' ∧ w'.ownsRow B 67 2 v' (bs.length - 1) (binC (bs.take i ++ bs.drop (i + 1))) ∧
      Mod (fun k => v.ownBlock = some k) W w' ∧ v'.ownBlock = v.ownBlock := by
  obtain ⟨A, c, rfl, hnc, hcm, -⟩ := own_rd HO
  obtain ⟨i0, hi0, hz⟩ := Option.map_eq_some_iff.1 (show (Tryd.prog.info? 67).map (fun i => (i.zero, i.size, i.bytes)) = some (some (.agg #[.int .i64 0, .int .i64 0]), 2, 16) by kernel_rfl)
  simp only [Prod.mk.injEq] at hz
  obtain ⟨hz0, hz1, hz2⟩ := hz
  obtain ⟨P, hP⟩ : ∃ P, P = binC (bs.take i) := ⟨_, rfl⟩
  obtain ⟨D, hD⟩ : ∃ D, D = binC (bs.drop (i + 1)) := ⟨_, rfl⟩
  have hPl : P.length = i * 2 := by rw [hP, binC_len, List.length_take]; omega
  have hDl : D.length = (bs.length - (i + 1)) * 2 := by rw [hD, binC_len, List.length_drop]
  have hD1 : ∀ u ∈ D, u.oneCell' = true := by rw [hD]; exact binC_one _
  have hres : binC (bs.take i ++ bs.drop (i + 1)) = P ++ D := by rw [binC_app, hP, hD]
  have hPt : (binC bs).take (i * 2) = P := by rw [hP, binC_take]
  have hDt : (binC bs).drop ((i + 1) * 2) = D := by rw [hD, binC_drop]
  rw [hres]
  rcases HO.2 with ⟨_, h0⟩ | ⟨g, c', cur, he, hBg, hh, h1, h2, h3, h4⟩
  · omega
  injection he with hA hnn hc
  subst hA hc
  have hblk : Blk W g 67 cur := hh
  clear hh hnn HO hP hD hres
  obtain ⟨n, hnn⟩ : ∃ n, n = bs.length := ⟨_, rfl⟩
  rw [← hnn] at hi hn hnc hDl h1 h4 ⊢
  clear hnn
  obtain ⟨i1, hi1⟩ : ∃ i1 : Nat, i1 = i + 1 := ⟨_, rfl⟩
  obtain ⟨n1, hn1⟩ : ∃ n1 : Nat, n1 = n - 1 := ⟨_, rfl⟩
  have z1 : (i : Int) + 1 = (i1 : Int) := by omega
  have hlen : cur.toList.length = c * 2 := by rw [Array.length_toList, h3]
  rw [z1]
  have hcuth := cut_h (P := Tryd.prog) 49 67 2 Tryd.underlying49 (by kernel_rfl) (some ⟨g, 0, none⟩) n c i (by omega)
  obtain ⟨A2, hA2⟩ : ∃ A2 : Addr, (if c = i1 then some (⟨g, 0, none⟩ : Addr) else some ⟨g, i1 * 2, none⟩) = some A2 ∧ (0 < D.length → A2 = ⟨g, i1 * 2, none⟩) := by
    by_cases h : c = i1
    · exact ⟨⟨g, 0, none⟩, by rw [if_pos h], fun hl => by omega⟩
    · exact ⟨⟨g, i1 * 2, none⟩, by rw [if_neg h], fun _ => rfl⟩
  have hcutS : ∀ W, (Instr.slice 49 (.slice (some ⟨g, 0, none⟩) n c) (some (.int .i64 (i1 : Int))) none none).run Tryd.prog W = .ok (.slice (some A2) (n - i1) (c - i1)) W := fun W => by
    rw [cut_l (P := Tryd.prog) 49 67 2 Tryd.underlying49 (by kernel_rfl) (some ⟨g, 0, none⟩) n c i1 (by omega)]
    unfold cutA
    rw [← hA2.1, Option.map_some, Addr.add_lit, Nat.zero_add]
  have hcutZ : ∀ W, (Instr.slice 49 (.slice (some ⟨g, 0, none⟩) n1 c) (some (.int .i64 (n1 : Int))) (some (.int .i64 (n : Int))) none).run Tryd.prog W = .ok (.slice (some ⟨g, n1 * 2, none⟩) 1 (c - n1)) W := fun W => by
    rw [cut_lh (P := Tryd.prog) 49 67 2 Tryd.underlying49 (by kernel_rfl) (some ⟨g, 0, none⟩) n1 c n1 n (by omega) (by omega), cutA_at g n1 2 c (by omega), show n - n1 = 1 by omega]
  have hap : ∀ (ty : TypeId) (W' : World), Dr W W' → ∃ W1, (Builtin.append_ #[49, 49] ty #[.slice (some ⟨g, 0, none⟩) i c, .slice (some A2) (n - i1) (c - i1)]).run Tryd.prog W' = .ok (.slice (some ⟨g, 0, none⟩) n1 c) W1 ∧
      Hid (Blk W1 g 67 (splice cur.toList (i * 2) D).toArray ∧ Mod (fun k => k = g) W W1) := fun ty W' hd => by
    have hb : Blk W' g 67 cur := by obtain ⟨q, rfl⟩ := hd; exact hblk
    have h := run_append_room_cells (P := Tryd.prog) W' 49 ty 67 i0 Tryd.underlying49 hi0 g 0 i c A2 (n - i1) (c - i1) D (by rw [hz1, hDl, hi1])
      (fun j v hj => by
        have hjl : j < D.length := (List.getElem?_eq_some_iff.1 hj).1
        rw [hA2.2 (by omega)]
        exact hb.at_take h4 D (by rw [hi1]; exact hDt) j v hj) hD1 (by omega)
      (fun j hj => by rw [hz1, hb.cell, Array.getElem?_eq_getElem (by omega)]; rfl) (fun j hj => hb.frozen _)
    rw [hz1, Nat.zero_add, setCells_row g 67 (0, 0) D (i * 2) cur W' hb (by omega), show i + (n - i1) = n1 by omega] at h
    exact ⟨_, h, setRow_blk hb _, (hd.mod).trans (setRow_mod _ _ _)⟩
  have hcl : ∀ (ty : TypeId) (W' W'' : World), Blk W' g 67 (splice cur.toList (i * 2) D).toArray ∧ Mod (fun k => k = g) W W' → Dr W' W'' → ∃ W3, (Builtin.clear_ #[49] ty #[.slice (some ⟨g, n1 * 2, none⟩) 1 (c - n1)]).run Tryd.prog W'' = .ok (.tuple #[]) W3 ∧
      Hid (Blk W3 g 67 (splice (splice cur.toList (i * 2) D) (n1 * 2) [.int .i64 0, .int .i64 0]).toArray ∧ Mod (fun k => k = g) W W3) := fun ty W' W'' hW hd => by
    have hb : Blk W'' g 67 (splice cur.toList (i * 2) D).toArray := by obtain ⟨q, rfl⟩ := hd; exact hW.1
    have h := run_clear_row1 (P := Tryd.prog) W'' 49 67 ty (.agg #[.int .i64 0, .int .i64 0]) [.int .i64 0, .int .i64 0] Tryd.underlying49 (by intro w; kernel_rfl) rfl (by intro v hv; simp at hv; rw [hv]; rfl) g (n1 * 2) (c - n1) _ 67 hb
      (by rw [List.size_toArray, length_splice _ _ _ (by rw [hlen, hDl]; omega), hlen]; simp; omega)
    exact ⟨_, h, setRow_blk hb _, hW.2.trans ((hd.mod).trans (setRow_mod _ _ _))⟩
  have hfin : (splice (splice cur.toList (i * 2) D) (n1 * 2) [.int .i64 0, .int .i64 0]).take (n1 * 2) = P ++ D := by
    rw [hn1]
    exact del_take (by rw [← hPt, ← h4, List.take_take, Nat.min_eq_left (by omega)]) hDl rfl hi (by omega)
  have hfl : (splice (splice cur.toList (i * 2) D) (n1 * 2) [.int .i64 0, .int .i64 0]).length = c * 2 := by
    rw [length_splice _ _ _ (by rw [length_splice _ _ _ (by rw [hDl]; omega)]; simp; omega), length_splice _ _ _ (by rw [hDl]; omega), hlen]
  have HF := hid' (And.intro hfin hfl)
  have HA := hid' hap
  have HC := hid' hcl
  have HL := hid' (And.intro hPl hDl)
  have HN1 := hid' hn1
  have HI1 := hid' hi1
  have hne1 : ¬ (i : Int) = (i1 : Int) := by omega
  have g1 : (0 : Int) ≤ (i1 : Int) := by omega
  have g2 : (i1 : Int) ≤ (n : Int) := by omega
  have g3 : (i : Int) ≤ (i1 : Int) := by omega
  clear hap hcl hfin hfl hblk hPt hDt h4 hPl hDl hlen h3 hA2 hi1 hn1 z1
  go_enter Tryd.func34, Tryd.ntmps34
  go_wp2_with fail
  go_region_law (refine step_append_ex rfl (.tmp 22) (.tmp 25) 49 49 rfl (.slice (some ⟨g, 0, none⟩) i c) (.slice (some A2) (n - i1) (c - i1)) _ (by simp [Act.eval, Act.put]) (by simp [Act.eval, Act.put]) _ (HA.out _ _ (by repeat (first | exact Dr.refl _ | apply Dr.step | apply Dr.stepd))) ?_; intro W1 hW1)
  go_wp2_with (refine wpList_clear_ex rfl _ 49 rfl (.slice (some ⟨g, n1 * 2, none⟩) 1 (c - n1)) _ rfl _ (HC.out _ _ _ hW1.out (by repeat (first | exact Dr.refl _ | apply Dr.step | apply Dr.stepd))) ?_; intro W3 hW3)
  go_ret
  obtain ⟨hb4, hm4⟩ := hW3.out
  refine ⟨_, rfl, ⟨?_, .inr ⟨g, c, _, by rw [← HN1.out]; rfl, hBg, hb4, by have := HN1.out; omega, h2, ?_, ?_⟩⟩, ?_, rfl⟩
  · have := HL.out; have := HN1.out; simp; omega
  · rw [List.size_toArray, HF.out.2]
  · rw [← HN1.out]; exact HF.out.1
  · exact hm4.mono (fun k _ h => by rw [h]; rfl)
end Go.Proofs.YtckndjgdfhbgcaaDoor
