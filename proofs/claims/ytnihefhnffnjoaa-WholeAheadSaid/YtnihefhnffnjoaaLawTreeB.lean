
/- The second law of layer 16 (tree), walked. No condition. -/
import Derived.Test.YtnihefhnffnjoaaLawTree
namespace Go.Proofs.Ytnihefhnffnjoaa
open Go.RowKit
set_option linter.unusedVariables false

def lkB (keys : List Int) (b : Int) : Int := if b = -1 then 0 else keyOf keys b
def lpB (b : Int) : Int := if b = -1 then 0 else b
def loB (b : Int) : Bool := b != -1
def bestK (keys : List Int) (outs : List Bool) (k : Nat) : Int := best (keyOf keys) (innOf outs) 0 k
theorem lk_eq (keys : List Int) (outs : List Bool) : treeLK keys outs = lkB keys (bestK keys outs keys.length) ∧ treeLP keys outs = lpB (bestK keys outs keys.length) ∧ treeLO keys outs = loB (bestK keys outs keys.length) := ⟨rfl, rfl, rfl⟩
theorem bestK_succ (keys : List Int) (outs : List Bool) (k : Nat) : bestK keys outs (k + 1) = better (keyOf keys) (bestK keys outs k) (if innOf outs k then (k : Int) else -1) := by
  unfold bestK; rw [best, Nat.zero_add]
theorem bestK_place (keys : List Int) (outs : List Bool) (k : Nat) : bestK keys outs k = -1 ∨ ∃ q : Nat, bestK keys outs k = (q : Int) ∧ q < k := by
  rcases best_in (keyOf keys) (innOf outs) 0 k with h | ⟨i, h, _, h2, _⟩
  · exact .inl h
  · exact .inr ⟨i, h, by omega⟩
/-- A tree, and the law's own rows of the same. -/
def S16 (w0 w : World) (lo hi g : Nat) (keys : List Int) (outs : List Bool) (bk : Nat) (K : List Int) (bo : Nat) (O : List Bool) (ex : Ex6) : Prop :=
  STree w0 w lo hi g keys outs ((bk, 3, (K.map (Value.int .i64)).toArray) :: (bo, 4, (O.map Value.bool).toArray) :: ex) ∧ w0.heap.size ≤ bk ∧ w0.heap.size ≤ bo ∧ (bk < lo ∨ hi ≤ bk) ∧ (bo < lo ∨ hi ≤ bo) ∧ (∀ x ∈ ex, x.1 ≠ bk ∧ x.1 ≠ bo ∧ (x.1 < lo ∨ hi ≤ x.1)) ∧ outs.length = keys.length
section
variable {w0 w : World} {lo hi g bk bo : Nat} {keys K : List Int} {outs O : List Bool} {ex : Ex6}
theorem S16.kc (h : S16 w0 w lo hi g keys outs bk K bo O ex) : BlkL (Value.int .i64) w bk 3 K := h.1.e0
theorem S16.oc (h : S16 w0 w lo hi g keys outs bk K bo O ex) : BlkL Value.bool w bo 4 O := h.1.e1
theorem S16.xc {k : Nat} {T : TypeId} {cs : Array Value} (h : S16 w0 w lo hi g keys outs bk K bo O [(k, T, cs)]) : Blk w k T cs := h.1.e2
theorem S16.kne (h : S16 w0 w lo hi g keys outs bk K bo O ex) : bk ≠ bo := Blk.ne h.kc h.oc (by decide)
theorem S16.setK (h : S16 w0 w lo hi g keys outs bk K bo O ex) (q : Nat) (x : Int) : S16 w0 (w.setCell ⟨bk, q, none⟩ (.int .i64 x)) lo hi g keys outs bk (K.set q x) bo O ex := by
  have hk := h.kc
  have ho := h.oc
  have hne := h.kne
  obtain ⟨h1, h2, h3, h4, h5, h6, h7⟩ := h
  refine ⟨h1.put h2 h4 (fun y hy => ?_), h2, h3, h4, h5, h6, h7⟩
  rcases List.mem_cons.1 hy with rfl | hy
  · exact ⟨hk.set q x, h4⟩
  · rcases List.mem_cons.1 hy with rfl | hy
    · exact ⟨ho.far (p := ⟨bk, q, none⟩) hne.symm _, h5⟩
    · exact ⟨Blk.far (h1.2.2.2.2 y (List.mem_cons_of_mem _ (List.mem_cons_of_mem _ hy))).1 (p := ⟨bk, q, none⟩) (h6 y hy).1 _, (h6 y hy).2.2⟩
theorem S16.setO (h : S16 w0 w lo hi g keys outs bk K bo O ex) (q : Nat) (x : Bool) : S16 w0 (w.setCell ⟨bo, q, none⟩ (.bool x)) lo hi g keys outs bk K bo (O.set q x) ex := by
  have hk := h.kc
  have ho := h.oc
  have hne := h.kne
  obtain ⟨h1, h2, h3, h4, h5, h6, h7⟩ := h
  refine ⟨h1.put h3 h5 (fun y hy => ?_), h2, h3, h4, h5, h6, h7⟩
  rcases List.mem_cons.1 hy with rfl | hy
  · exact ⟨hk.far (p := ⟨bo, q, none⟩) hne _, h4⟩
  · rcases List.mem_cons.1 hy with rfl | hy
    · exact ⟨ho.set q x, h5⟩
    · exact ⟨Blk.far (h1.2.2.2.2 y (List.mem_cons_of_mem _ (List.mem_cons_of_mem _ hy))).1 (p := ⟨bo, q, none⟩) (h6 y hy).2.1 _, (h6 y hy).2.2⟩
theorem S16.dr {w' : World} (h : S16 w0 w lo hi g keys outs bk K bo O ex) (hb : Dr w w') : S16 w0 w' lo hi g keys outs bk K bo O ex := ⟨h.1.dr hb, h.2⟩
theorem S16.set (i x : Int) (h : S16 w0 w lo hi g keys outs bk K bo O ex) :
    Calls Try.prog 35 #[.pointer (some ⟨g, 0, none⟩), .int .i64 i, .int .i64 x] w fun e w' => e = .returned (.bool (treeHas keys.length i)) ∧ S16 w0 w' lo hi g (alSet keys i x) outs bk K bo O ex :=
  (h.1.set i x).mono fun e w' ⟨he, hs⟩ => ⟨he, hs, h.2.1, h.2.2.1, h.2.2.2.1, h.2.2.2.2.1, h.2.2.2.2.2.1, by rw [alSet_len]; exact h.2.2.2.2.2.2⟩
theorem S16.leave (i : Int) (x : Bool) (h : S16 w0 w lo hi g keys outs bk K bo O ex) :
    Calls Try.prog 34 #[.pointer (some ⟨g, 0, none⟩), .int .i64 i, .bool x] w fun e w' => e = .returned (.bool (treeHas keys.length i)) ∧ S16 w0 w' lo hi g keys (bSet outs i x) bk K bo O ex :=
  (h.1.leave i x).mono fun e w' ⟨he, hs⟩ => ⟨he, hs, h.2.1, h.2.2.1, h.2.2.2.1, h.2.2.2.2.1, h.2.2.2.2.2.1, by rw [bSet_len]; exact h.2.2.2.2.2.2⟩
theorem S16.key (i : Int) (h : S16 w0 w lo hi g keys outs bk K bo O ex) :
    Calls Try.prog 36 #[.pointer (some ⟨g, 0, none⟩), .int .i64 i] w fun e w' => e = .returned (.int .i64 (treeKey keys i)) ∧ w = w' := h.1.key i
theorem S16.len_ (h : S16 w0 w lo hi g keys outs bk K bo O ex) :
    Calls Try.prog 38 #[.pointer (some ⟨g, 0, none⟩)] w fun e w' => e = .returned (.int .i64 keys.length) ∧ w = w' := h.1.len_
theorem S16.least (h : S16 w0 w lo hi g keys outs bk K bo O ex) :
    Calls Try.prog 37 #[.pointer (some ⟨g, 0, none⟩)] w fun e w' => e = .returned (.tuple #[.int .i64 (lkB keys (bestK keys outs keys.length)), .int .i64 (lpB (bestK keys outs keys.length)), .bool (loB (bestK keys outs keys.length))]) ∧ w = w' := h.1.least
theorem S16.below (h : S16 w0 w lo hi g keys outs bk K bo O ex) : Below w0.heap.size w0 w := h.1.1
theorem S16.drop (h : S16 w0 w lo hi g keys outs bk K bo O ex) : S16 w0 w lo hi g keys outs bk K bo O [] := by
  obtain ⟨h1, h2, h3, h4, h5, h6, h7⟩ := h
  exact ⟨h1.sub (by intro x hx; simp at hx ⊢; rcases hx with h | h; exact .inl h; exact .inr (.inl h)), h2, h3, h4, h5, (fun x hx => by cases hx), h7⟩
theorem S16.alloc (h : S16 w0 w lo hi g keys outs bk K bo O []) (T : TypeId) (cs : Array Value) : S16 w0 (w.alloc (.cells cs T)) lo hi g keys outs bk K bo O [(w.heap.size, T, cs)] := by
  have lk := h.kc.lt
  have lo_ := h.oc.lt
  obtain ⟨h1, h2, h3, h4, h5, h6, h7⟩ := h
  have hb := h1.bel (bel_alloc (bel_refl w) (.cells cs T))
  have h3' := h1.2.2.1
  refine ⟨(hb.addE (Blk.new_ w T cs) (by omega)).sub ?_, h2, h3, h4, h5, ?_, h7⟩
  · intro x hx; simp at hx ⊢; rcases hx with h | h | h
    · exact .inr (.inl h)
    · exact .inr (.inr h)
    · exact .inl h
  · intro x hx
    rw [List.mem_singleton] at hx
    subst hx
    exact ⟨by show w.heap.size ≠ bk; omega, by show w.heap.size ≠ bo; omega, by show w.heap.size < lo ∨ hi ≤ w.heap.size; omega⟩
end
def RAct16 (w : World) (cs : List Value) (x : Bool × Bool × Int × Int) : Prop := cs.length = 4 ∧ RBool w ((cs.drop 0).take 1) x.1 ∧ RBool w ((cs.drop 1).take 1) x.2.1 ∧ RInt .i64 w ((cs.drop 2).take 1) x.2.2.1 ∧ RInt .i64 w ((cs.drop 3).take 1) x.2.2.2
theorem RAct16.cells {w : World} {cs : List Value} {x : Bool × Bool × Int × Int} (h : RAct16 w cs x) : cs = [.bool x.1, .bool x.2.1, .int .i64 x.2.2.1, .int .i64 x.2.2.2] ∧ I64 x.2.2.1 ∧ I64 x.2.2.2 := by
  obtain ⟨hl, h0, h1, ⟨h2, w2⟩, ⟨h3, w3⟩⟩ := h
  match cs, hl with
  | [a, b, c, d], _ =>
    unfold RBool at h0 h1
    simp at h0 h1 h2 h3
    subst h0 h1 h2 h3
    exact ⟨rfl, I64.of_wf w2, I64.of_wf w3⟩
def fAct16 (x : Bool × Bool × Int × Int) : List Value := [.bool x.1, .bool x.2.1, .int .i64 x.2.2.1, .int .i64 x.2.2.2]
def Rows16 (w0 w1 : World) (lo hi g bk bo m : Nat) : Prop := S16 w0 w1 lo hi g (List.replicate m 0) (List.replicate m false) bk (List.replicate m 0) bo (List.replicate m false) []

theorem rows16_a {w0 w : World} {lo hi g m : Nat} (h : STree w0 w lo hi g (List.replicate m 0) (List.replicate m false) []) :
    Rows16 w0 ((w.alloc (.cells (madeCells #[Value.int .i64 0] m) 3)).alloc (.cells (madeCells #[Value.bool false] m) 4)).drew lo hi g w.heap.size (w.heap.size + 1) m := by
  have h3 := h.2.2.1
  have hsz := h.1.size
  have hb : Below w.heap.size w ((w.alloc (.cells (madeCells #[Value.int .i64 0] m) 3)).alloc (.cells (madeCells #[Value.bool false] m) 4)).drew := (by repeat (first | assumption | apply bel_alloc | apply bel_drewN | apply bel_drew | exact bel_refl _))
  have k1 := (BlkL.made' (f := Value.int .i64) w 3 0 m).alloc (.cells (madeCells #[Value.bool false] m) 4)
  have k2 := BlkL.made' (f := Value.bool) (w.alloc (.cells (madeCells #[Value.int .i64 0] m) 3)) 4 false m
  rw [show (w.alloc (.cells (madeCells #[Value.int .i64 0] m) 3)).heap.size = w.heap.size + 1 by simp] at k2
  exact ⟨((h.bel hb).addE (Blk.drew k2) (by omega)).addE (Blk.drew k1) (by omega), by omega, by omega, by omega, by omega, (fun x hx => by cases hx), by simp⟩
theorem rows16_b {w0 w : World} {lo hi g m : Nat} (h : STree w0 w lo hi g (List.replicate m 0) (List.replicate m false) []) :
    Rows16 w0 ((w.alloc (.cells (madeCells #[Value.bool false] m) 4)).alloc (.cells (madeCells #[Value.int .i64 0] m) 3)).drew lo hi g (w.heap.size + 1) w.heap.size m := by
  have h3 := h.2.2.1
  have hsz := h.1.size
  have hb : Below w.heap.size w ((w.alloc (.cells (madeCells #[Value.bool false] m) 4)).alloc (.cells (madeCells #[Value.int .i64 0] m) 3)).drew := (by repeat (first | assumption | apply bel_alloc | apply bel_drewN | apply bel_drew | exact bel_refl _))
  have k1 := (BlkL.made' (f := Value.bool) w 4 false m).alloc (.cells (madeCells #[Value.int .i64 0] m) 3)
  have k2 := BlkL.made' (f := Value.int .i64) (w.alloc (.cells (madeCells #[Value.bool false] m) 4)) 3 0 m
  rw [show (w.alloc (.cells (madeCells #[Value.bool false] m) 4)).heap.size = w.heap.size + 1 by simp] at k2
  exact ⟨((h.bel hb).addE (Blk.drew k1) (by omega)).addE (Blk.drew k2) (by omega), by omega, by omega, by omega, by omega, (fun x hx => by cases hx), by simp⟩
set_option maxRecDepth 100000 in
set_option maxHeartbeats 4000000 in
theorem treeDoes (n : Int) (A : Option Addr) (cp : Nat) (l : List (Bool × Bool × Int × Int)) (w : World) (hnn : (Lit.int .i64 n).wf = true)
    (hr : ∀ j x, l[j]? = some x → ∃ ad row, A = some ad ∧ RAct16 w row x ∧ row.length = 4 ∧ ∀ i u, row[i]? = some u → w.cell? ((ad.add (j * 4)).add i) = some u) (hn : l.length ≤ maxLen) :
    Calls Try.prog 7 #[.int .i64 n, .slice A l.length cp] w fun e w' => e = .returned (.bool true) ∧ Below w.heap.size w w' := by
  have hn' : l.length ≤ 9223372036854775807 := hn
  have HR := hid' (show RdS w A 4 fAct16 l from fun j x hj => by
    obtain ⟨ad, row, e, ha, hl, hc⟩ := hr j x hj
    obtain ⟨rfl, _, _⟩ := ha.cells
    exact ⟨ad, e, rfl, hc⟩)
  have HL := hid' (show ∀ (j : Nat) (x : Bool × Bool × Int × Int), l[j]? = some x → I64 x.2.2.1 ∧ I64 x.2.2.2 from fun j x hj => by
    obtain ⟨ad, row, e, ha, hl, hc⟩ := hr j x hj
    exact ha.cells.2)
  clear hr hnn hn
  go_enter Try.func7, Try.ntmps7
  go_wp2_with fail
  refine (law16_speaks w).mono ?_
  rintro e w1 ⟨rfl, hB⟩
  by_cases hn0 : 300 < n
  · go_wp2
    go_ret
    exact ⟨rfl, hB⟩
  by_cases hl0 : 100 < l.length
  · have hn1 : decide (300 < n) = false := decide_eq_false hn0
    go_wp2
    go_ret
    exact ⟨rfl, hB⟩
  have HR1 := hid' (HR.out.below hB)
  have HB := hid' hB
  clear HR hB
  go_wp2_with fail
  refine (STree.new_ (w0 := w1) n (bel_refl _) (by omega)).mono ?_
  rintro e w2 ⟨lo, hi, g, rfl, hS⟩
  obtain ⟨m, hm⟩ : ∃ m : Nat, max n 0 = (m : Int) := ⟨n.toNat, by omega⟩
  rw [show n.toNat = m by omega] at hS
  have hm1 : m ≤ 1000 := by omega
  have hmk := mk1_run (P := Try.prog) 42 3 (.int .i64 0) 8 Try.underlying42 (by kernel_rfl) rfl m (by omega) (by omega)
  have hmb := mk1_run (P := Try.prog) 55 4 (.bool false) 1 Try.underlying55 (by kernel_rfl) rfl m (by omega) (by omega)
  have HS := hid' hS
  clear hS
  go_upto_region 6 with (fail)
  go_cut [6, 7] from 30 (fun v6 v7 wx => ∃ bk bo, v6 = .slice (some ⟨bk, 0, none⟩) m m ∧ v7 = .slice (some ⟨bo, 0, none⟩) m m ∧ Rows16 w1 wx lo hi g bk bo m)
  case first =>
    go_region
    · go_wp2_with fail
      go_meet
      exact ⟨_, _, rfl, rfl, rows16_a HS.out⟩
    · go_wp2_with fail
      go_meet
      exact ⟨_, _, rfl, rfl, rows16_b HS.out⟩
  case rest =>
    obtain ⟨bk, bo, rfl, rfl, hS⟩ := hcut
    have HS0 := hid' hS
    clear hS HS hmk hmb
    go_wp2
    go_loopg [8] (l.length + 2) (fun gk v8 wr => ∃ (z : Int) (keys : List Int) (outs : List Bool), -1 ≤ z ∧ z ≤ (l.length : Int) ∧ (gk : Int) = (l.length : Int) + 1 - z ∧ v8 = .int .i64 z ∧ keys.length = m ∧ S16 w1 wr lo hi g keys outs bk keys bo outs [])
    case atStart => exact ⟨-1, _, _, by omega, by omega, by omega, rfl, by simp, HS0.out⟩
    case round =>
      obtain ⟨z, keys, outs, hz0, hz1, hgk, rfl, hKL, hS⟩ := hrel
      have HKL := hid' hKL
      have HS := hid' hS
      clear hKL hS
      have HGK := hid' hgk
      clear hgk
      by_cases hlt : z < (l.length : Int)
      · go_upto_if 43 with (fail)
        go_cut [9, 10] (fun v9 v10 wx => ∃ (keys : List Int) (outs : List Bool), keys.length = m ∧ S16 w1 wx lo hi g keys outs bk keys bo outs [])
        case first =>
          by_cases hk0 : z < 0
          · go_wp2
            go_meet
            exact ⟨keys, outs, HKL.out, HS.out⟩
          obtain ⟨j, rfl⟩ := Int.eq_ofNat_of_zero_le (show 0 ≤ z by omega)
          have hj : j < l.length := by omega
          obtain ⟨x, hx⟩ : ∃ x, l[j]? = some x := ⟨_, List.getElem?_eq_getElem hj⟩
          obtain ⟨ad, rfl, -, hc⟩ := HR1.out.below HS.out.below j x hx
          obtain ⟨hxI, hxI2⟩ := HL.out j x hx
          obtain ⟨lv, ot, xi, xn⟩ := x
          dsimp only at hxI hxI2
          have hc0 : wr.cell? (ad.add (j * 4)) = some (.bool lv) := hc 0 _ rfl
          have hc1 : wr.cell? ⟨(ad.add (j * 4)).block, (ad.add (j * 4)).off + 1, none⟩ = some (.bool ot) := hc 1 _ rfl
          have hc2 : wr.cell? ⟨(ad.add (j * 4)).block, (ad.add (j * 4)).off + 2, none⟩ = some (.int .i64 xi) := hc 2 _ rfl
          have hc3 : wr.cell? ⟨(ad.add (j * 4)).block, (ad.add (j * 4)).off + 3, none⟩ = some (.int .i64 xn) := hc 3 _ rfl
          clear hc hx hk0
          have hS1 := HS.out.alloc 57 #[.bool lv, .bool ot, .int .i64 xi, .int .i64 xn]
          have hKL := HKL.out
          have HOL := hid' HS.out.2.2.2.2.2.2
          clear hKL
          cases lv
          · by_cases hneg : xi < 0
            · have HE := hid' (show treeHas m xi = false from decide_eq_false (by omega))
              go_wp2_with fail
              refine ((S16.set xi xn hS1)).mono ?_
              rintro e w5 ⟨rfl, hS5⟩
              rw [alSet_out (l := keys) (i := xi) (by rw [HKL.out]; exact HE.out) xn] at hS5
              rw [HKL.out, HE.out]
              generalize wr.heap.size = ba at *
              have y2 : w5.cell? ⟨ba, 2, none⟩ = some (.int .i64 xi) := by simpa using hS5.xc.cell 2
              have HP := hid' fun (wx : World) (hw : Dr w5 wx) => tree_Key lo hi g keys outs xi wx (hS5.1.2.2.2.1.dr hw)
              have HK0 := hid' (show treeKey keys xi = 0 by unfold treeKey; rw [HKL.out, if_neg (by rw [HE.out]; simp)])
              rw [HK0.out] at HP
              have HS5 := hid' hS5
              clear hS1 hS5 hc0 hc1 hc2 hc3
              go_wp2
              go_quiet ((go_at_call 36; exact quiet_same (HP.out _ (by repeat (first | exact Dr.refl _ | apply Dr.step | apply Dr.stepd))) (by repeat (first | exact Dr.refl _ | apply Dr.step | apply Dr.stepd))))
              go_wp2
              go_meet
              exact ⟨keys, outs, HKL.out, HS5.out.drop.dr (by repeat (first | exact Dr.refl _ | apply Dr.step | apply Dr.stepd))⟩
            · obtain ⟨q, rfl⟩ := Int.eq_ofNat_of_zero_le (show 0 ≤ xi by omega)
              have hq0 : (0 : Int) ≤ (q : Int) := by omega
              clear hneg
              by_cases hqm : q < m
              · have HE := hid' (show treeHas m (q : Int) = true from decide_eq_true (by omega))
                have hq1 : (q : Int) < (m : Int) := by omega
                go_wp2_with fail
                refine ((S16.set (q : Int) xn hS1)).mono ?_
                rintro e w5 ⟨rfl, hS5⟩
                rw [show alSet keys (q : Int) xn = keys.set q xn by unfold alSet; rw [if_pos hq0]; simp] at hS5
                rw [HKL.out, HE.out]
                generalize wr.heap.size = ba at *
                have y1 : w5.cell? ⟨ba, 1, none⟩ = some (.bool ot) := by simpa using hS5.xc.cell 1
                have y2 : w5.cell? ⟨ba, 2, none⟩ = some (.int .i64 (q : Int)) := by simpa using hS5.xc.cell 2
                have y3 : w5.cell? ⟨ba, 3, none⟩ = some (.int .i64 xn) := by simpa using hS5.xc.cell 3
                have hcy := hS5.kc.cell (keyOf_at (keys := keys) (p := q) (by have := HKL.out; omega))
                have hfy := hS5.kc.frozen q
                generalize keyOf keys (q : Int) = oq at hcy
                have hS6 := hS5.setK q xn
                have z2 : (w5.setCell ⟨bk, q, none⟩ (.int .i64 xn)).cell? ⟨ba, 2, none⟩ = some (.int .i64 (q : Int)) := by simpa using hS6.xc.cell 2
                have HLk := hid' (show ((keys.set q xn)).length = m by first | exact HKL.out | (rw [List.length_set]; exact HKL.out))
                have z3 := hS6.kc.cell (keyOf_at (keys := (keys.set q xn)) (p := q) (by have := HLk.out; omega))
                have HK0 := hid' (show treeKey (keys.set q xn) (q : Int) = keyOf (keys.set q xn) (q : Int) by unfold treeKey; rw [HLk.out, if_pos (by rw [HE.out])])
                have HP := hid' fun (wx : World) (hw : Dr (w5.setCell ⟨bk, q, none⟩ (.int .i64 xn)) wx) => tree_Key lo hi g (keys.set q xn) outs (q : Int) wx (hS6.1.2.2.2.1.dr hw)
                rw [HK0.out] at HP
                have HS6 := hid' hS6
                clear hS1 hS5 hc0 hc1 hc2 hc3 hS6
                go_wp2
                generalize keyOf (keys.set q xn) (q : Int) = kq at *
                generalize w5.setCell ⟨bk, q, none⟩ (.int .i64 xn) = w6 at *
                clear y1 y2 y3 hcy hfy
                go_quiet ((go_at_call 36; exact quiet_same (HP.out _ (by repeat (first | exact Dr.refl _ | apply Dr.step | apply Dr.stepd))) (by repeat (first | exact Dr.refl _ | apply Dr.step | apply Dr.stepd))))
                go_wp2
                go_meet
                exact ⟨(keys.set q xn), outs, HLk.out, HS6.out.drop.dr (by repeat (first | exact Dr.refl _ | apply Dr.step | apply Dr.stepd))⟩
              · have HE := hid' (show treeHas m (q : Int) = false from decide_eq_false (by omega))
                have hq1 : decide (q < m) = false := decide_eq_false hqm
                go_wp2_with fail
                refine ((S16.set (q : Int) xn hS1)).mono ?_
                rintro e w5 ⟨rfl, hS5⟩
                rw [alSet_out (l := keys) (i := (q : Int)) (by rw [HKL.out]; exact HE.out) xn] at hS5
                rw [HKL.out, HE.out]
                generalize wr.heap.size = ba at *
                have y2 : w5.cell? ⟨ba, 2, none⟩ = some (.int .i64 (q : Int)) := by simpa using hS5.xc.cell 2
                have HP := hid' fun (wx : World) (hw : Dr w5 wx) => tree_Key lo hi g keys outs (q : Int) wx (hS5.1.2.2.2.1.dr hw)
                have HK0 := hid' (show treeKey keys (q : Int) = 0 by unfold treeKey; rw [HKL.out, if_neg (by rw [HE.out]; simp)])
                rw [HK0.out] at HP
                have HS5 := hid' hS5
                clear hS1 hS5 hc0 hc1 hc2 hc3
                go_wp2
                go_quiet ((go_at_call 36; exact quiet_same (HP.out _ (by repeat (first | exact Dr.refl _ | apply Dr.step | apply Dr.stepd))) (by repeat (first | exact Dr.refl _ | apply Dr.step | apply Dr.stepd))))
                go_wp2
                go_meet
                exact ⟨keys, outs, HKL.out, HS5.out.drop.dr (by repeat (first | exact Dr.refl _ | apply Dr.step | apply Dr.stepd))⟩
          · by_cases hneg : xi < 0
            · have HE := hid' (show treeHas m xi = false from decide_eq_false (by omega))
              go_wp2_with fail
              refine ((S16.leave xi ot hS1)).mono ?_
              rintro e w5 ⟨rfl, hS5⟩
              rw [bSet_out (l := outs) (i := xi) (by rw [HOL.out, HKL.out]; exact HE.out) ot] at hS5
              rw [HKL.out, HE.out]
              generalize wr.heap.size = ba at *
              have y2 : w5.cell? ⟨ba, 2, none⟩ = some (.int .i64 xi) := by simpa using hS5.xc.cell 2
              have HP := hid' fun (wx : World) (hw : Dr w5 wx) => tree_Key lo hi g keys outs xi wx (hS5.1.2.2.2.1.dr hw)
              have HK0 := hid' (show treeKey keys xi = 0 by unfold treeKey; rw [HKL.out, if_neg (by rw [HE.out]; simp)])
              rw [HK0.out] at HP
              have HS5 := hid' hS5
              clear hS1 hS5 hc0 hc1 hc2 hc3
              go_wp2
              go_quiet ((go_at_call 36; exact quiet_same (HP.out _ (by repeat (first | exact Dr.refl _ | apply Dr.step | apply Dr.stepd))) (by repeat (first | exact Dr.refl _ | apply Dr.step | apply Dr.stepd))))
              go_wp2
              go_meet
              exact ⟨keys, outs, HKL.out, HS5.out.drop.dr (by repeat (first | exact Dr.refl _ | apply Dr.step | apply Dr.stepd))⟩
            · obtain ⟨q, rfl⟩ := Int.eq_ofNat_of_zero_le (show 0 ≤ xi by omega)
              have hq0 : (0 : Int) ≤ (q : Int) := by omega
              clear hneg
              by_cases hqm : q < m
              · have HE := hid' (show treeHas m (q : Int) = true from decide_eq_true (by omega))
                have hq1 : (q : Int) < (m : Int) := by omega
                go_wp2_with fail
                refine ((S16.leave (q : Int) ot hS1)).mono ?_
                rintro e w5 ⟨rfl, hS5⟩
                rw [show bSet outs (q : Int) ot = outs.set q ot by unfold bSet; rw [if_pos hq0]; simp] at hS5
                rw [HKL.out, HE.out]
                generalize wr.heap.size = ba at *
                have y1 : w5.cell? ⟨ba, 1, none⟩ = some (.bool ot) := by simpa using hS5.xc.cell 1
                have y2 : w5.cell? ⟨ba, 2, none⟩ = some (.int .i64 (q : Int)) := by simpa using hS5.xc.cell 2
                have y3 : w5.cell? ⟨ba, 3, none⟩ = some (.int .i64 xn) := by simpa using hS5.xc.cell 3
                have hcy := hS5.oc.cell (innOf_at (outs := outs) (p := q) (by rw [HOL.out, HKL.out]; omega))
                have hfy := hS5.oc.frozen q
                generalize innOf outs q = oq at hcy
                have hS6 := hS5.setO q ot
                have z2 : (w5.setCell ⟨bo, q, none⟩ (.bool ot)).cell? ⟨ba, 2, none⟩ = some (.int .i64 (q : Int)) := by simpa using hS6.xc.cell 2
                have HLk := hid' (show (keys).length = m by first | exact HKL.out | (rw [List.length_set]; exact HKL.out))
                have z3 := hS6.kc.cell (keyOf_at (keys := keys) (p := q) (by have := HLk.out; omega))
                have HK0 := hid' (show treeKey keys (q : Int) = keyOf keys (q : Int) by unfold treeKey; rw [HLk.out, if_pos (by rw [HE.out])])
                have HP := hid' fun (wx : World) (hw : Dr (w5.setCell ⟨bo, q, none⟩ (.bool ot)) wx) => tree_Key lo hi g keys (outs.set q ot) (q : Int) wx (hS6.1.2.2.2.1.dr hw)
                rw [HK0.out] at HP
                have HS6 := hid' hS6
                clear hS1 hS5 hc0 hc1 hc2 hc3 hS6
                go_wp2
                generalize keyOf keys (q : Int) = kq at *
                generalize w5.setCell ⟨bo, q, none⟩ (.bool ot) = w6 at *
                clear y1 y2 y3 hcy hfy
                go_quiet ((go_at_call 36; exact quiet_same (HP.out _ (by repeat (first | exact Dr.refl _ | apply Dr.step | apply Dr.stepd))) (by repeat (first | exact Dr.refl _ | apply Dr.step | apply Dr.stepd))))
                go_wp2
                go_meet
                exact ⟨keys, (outs.set q ot), HLk.out, HS6.out.drop.dr (by repeat (first | exact Dr.refl _ | apply Dr.step | apply Dr.stepd))⟩
              · have HE := hid' (show treeHas m (q : Int) = false from decide_eq_false (by omega))
                have hq1 : decide (q < m) = false := decide_eq_false hqm
                go_wp2_with fail
                refine ((S16.leave (q : Int) ot hS1)).mono ?_
                rintro e w5 ⟨rfl, hS5⟩
                rw [bSet_out (l := outs) (i := (q : Int)) (by rw [HOL.out, HKL.out]; exact HE.out) ot] at hS5
                rw [HKL.out, HE.out]
                generalize wr.heap.size = ba at *
                have y2 : w5.cell? ⟨ba, 2, none⟩ = some (.int .i64 (q : Int)) := by simpa using hS5.xc.cell 2
                have HP := hid' fun (wx : World) (hw : Dr w5 wx) => tree_Key lo hi g keys outs (q : Int) wx (hS5.1.2.2.2.1.dr hw)
                have HK0 := hid' (show treeKey keys (q : Int) = 0 by unfold treeKey; rw [HKL.out, if_neg (by rw [HE.out]; simp)])
                rw [HK0.out] at HP
                have HS5 := hid' hS5
                clear hS1 hS5 hc0 hc1 hc2 hc3
                go_wp2
                go_quiet ((go_at_call 36; exact quiet_same (HP.out _ (by repeat (first | exact Dr.refl _ | apply Dr.step | apply Dr.stepd))) (by repeat (first | exact Dr.refl _ | apply Dr.step | apply Dr.stepd))))
                go_wp2
                go_meet
                exact ⟨keys, outs, HKL.out, HS5.out.drop.dr (by repeat (first | exact Dr.refl _ | apply Dr.step | apply Dr.stepd))⟩
        case rest =>
          obtain ⟨keys, outs, hKL, hS⟩ := hcut
          have HKL2 := hid' hKL
          have HS2 := hid' hS
          have HOL := hid' (show outs.length = m from hS.2.2.2.2.2.2.trans hKL)
          clear hKL hS HS HKL
          go_wp2
          go_loopg [11, 12, 13, 116] m (fun gk v11 v12 v13 v116 wx => ∃ i : Nat, i ≤ m ∧ gk = m - i ∧ v116 = .int .i64 i ∧ v11 = .int .i64 (lkB keys (bestK keys outs i)) ∧ v12 = .int .i64 (lpB (bestK keys outs i)) ∧ v13 = .bool (loB (bestK keys outs i)) ∧ wc = wx)
          case atStart => exact ⟨0, by omega, by omega, rfl, rfl, rfl, rfl, rfl⟩
          case round =>
            obtain ⟨i, hi', rfl, rfl, rfl, rfl, rfl, rfl⟩ := hrel
            by_cases hlt2 : i < m
            · have hkc := HS2.out.kc.cell (keyOf_at (keys := keys) (p := i) (by have := HKL2.out; omega))
              have hoc := HS2.out.oc.cell (innOf_at (outs := outs) (p := i) (by have := HOL.out; omega))
              have HB1 := hid' (bestK_succ keys outs i)
              have hpl := bestK_place keys outs i
              generalize bestK keys outs i = b at *
              by_cases hin : innOf outs i = true
              · rw [hin] at hoc HB1
                rcases hpl with rfl | ⟨q, rfl, hq⟩
                · have HN := hid' (show bestK keys outs (i + 1) = (i : Int) by rw [HB1.out, none_better]; rfl)
                  have b1 : loB (-1) = false := rfl
                  have HE := hid' (show lkB keys (i : Int) = keyOf keys (i : Int) ∧ lpB (i : Int) = (i : Int) ∧ loB (i : Int) = true by unfold lkB lpB loB; rw [if_neg (by omega), if_neg (by omega)]; simp)
                  clear hin HB1
                  go_wp2
                  go_roundg (m - (i + 1))
                  case measure => omega
                  case rel => exact ⟨i + 1, by omega, rfl, by go_num, by rw [HN.out, HE.out.1], by rw [HN.out, HE.out.2.1], by rw [HN.out, HE.out.2.2], rfl⟩
                · have b1 : loB (q : Int) = true := by unfold loB; simp
                  have HE := hid' (show ∀ q : Nat, lkB keys (q : Int) = keyOf keys (q : Int) ∧ lpB (q : Int) = (q : Int) ∧ loB (q : Int) = true from fun q => by unfold lkB lpB loB; rw [if_neg (by omega), if_neg (by omega)]; simp)
                  obtain ⟨kq, hkq⟩ : ∃ kq, kq = keyOf keys (q : Int) := ⟨_, rfl⟩
                  obtain ⟨ki, hki⟩ : ∃ ki, ki = keyOf keys (i : Int) := ⟨_, rfl⟩
                  rw [(HE.out q).1, (HE.out q).2.1, ← hkq]
                  rw [← hki] at hkc
                  by_cases hle : kq ≤ ki
                  · have HN := hid' (show bestK keys outs (i + 1) = (q : Int) by rw [HB1.out]; unfold better; simp only [if_true]; rw [if_neg (by omega), if_pos (.inr (by rw [← hkq, ← hki]; exact hle))])
                    have HQ := hid' hkq
                    have HI := hid' hki
                    clear hin HB1 hkq hki
                    go_wp2
                    go_roundg (m - (i + 1))
                    case measure => omega
                    case rel => exact ⟨i + 1, by omega, rfl, by go_num, by rw [HN.out, (HE.out q).1, HQ.out], by rw [HN.out, (HE.out q).2.1], by rw [HN.out, (HE.out q).2.2], rfl⟩
                  · have HN := hid' (show bestK keys outs (i + 1) = (i : Int) by rw [HB1.out]; unfold better; simp only [if_true]; rw [if_neg (by omega), if_neg (by rw [← hkq, ← hki]; omega)])
                    have HQ := hid' hkq
                    have HI := hid' hki
                    clear hin HB1 hkq hki
                    go_wp2
                    go_roundg (m - (i + 1))
                    case measure => omega
                    case rel => exact ⟨i + 1, by omega, rfl, by go_num, by rw [HN.out, (HE.out i).1, HI.out], by rw [HN.out, (HE.out i).2.1], by rw [HN.out, (HE.out i).2.2], rfl⟩
              · rw [Bool.not_eq_true] at hin
                rw [hin] at hoc HB1
                have HN := hid' (show bestK keys outs (i + 1) = b by rw [HB1.out]; exact better_none _ _)
                clear hin HB1
                go_wp2
                go_roundg (m - (i + 1))
                case measure => omega
                case rel => exact ⟨i + 1, by omega, rfl, by go_num, by rw [HN.out], by rw [HN.out], by rw [HN.out], rfl⟩
            · have him : i = m := by omega
              subst him
              have hS := HS2.out
              have HLe := hid' hS.least
              have HLn := hid' hS.len_
              rw [HKL2.out] at HLe HLn
              clear hS
              go_wp2_with (first
                | (go_at_call 37; refine (HLe.out).mono ?_; rintro e w' ⟨rfl, rfl⟩)
                | (go_at_call 38; refine (HLn.out).mono ?_; rintro e w' ⟨rfl, rfl⟩))
              go_roundg (gk - 1)
              case measure => have := HGK.out; omega
              case rel => exact ⟨z + 1, keys, outs, by omega, by omega, by have := HGK.out; omega, rfl, HKL2.out, HS2.out⟩
      · go_wp2
        go_ret
        exact ⟨rfl, bel_then HB.out HS.out.below⟩
end Go.Proofs.Ytnihefhnffnjoaa
