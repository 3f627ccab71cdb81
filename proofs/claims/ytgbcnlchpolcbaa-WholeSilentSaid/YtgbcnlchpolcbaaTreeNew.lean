
/- A tree anew. No condition. -/
import Derived.Test.YtgbcnlchpolcbaaTree
import Derived.BigRegion
namespace Go.Proofs.Ytgbcnlchpolcbaa
set_option maxRecDepth 100000
set_option linter.unusedSimpArgs false
open Go.RowKit
set_option linter.unusedVariables false

theorem Inv.none (key : Int → Int) (inn : Nat → Bool) (size m : Nat) (h : ∀ j, inn j = false) : Inv key inn size (wonF (List.replicate m (-1))) := by
  intro k a hn
  unfold Right
  rw [best_out _ _ _ _ (fun i _ _ => h i)]
  unfold wonF
  rw [List.getD_eq_getElem?_getD, List.getElem?_replicate]
  split <;> rfl
theorem innOf_new (n j : Nat) : innOf (List.replicate n false) j = decide (j < n) := by
  unfold innOf
  rw [List.getD_eq_getElem?_getD, List.getElem?_replicate]
  by_cases h : j < n <;> simp [h]
/-- What stands behind the first statement. -/
def New1 (w w1 : World) (g bk bo n : Nat) : Prop :=
  Blk w1 g 45 #[.slice (some ⟨bk, 0, none⟩) n n, .slice (some ⟨bo, 0, none⟩) n n, .slice none 0 0, .int .i64 1] ∧ BlkL (Value.int .i64) w1 bk 3 (List.replicate n 0) ∧ BlkL Value.bool w1 bo 4 (List.replicate n false) ∧
  Below w.heap.size w w1 ∧ w.heap.size ≤ g ∧ w.heap.size ≤ bk ∧ w.heap.size ≤ bo
theorem new1_a (w : World) (n : Nat) : New1 w (((w.alloc (.cells (madeCells #[Value.int .i64 0] n) 3)).alloc (.cells (madeCells #[Value.bool false] n) 4)).alloc
    (.cells #[.slice (some ⟨w.heap.size, 0, none⟩) n n, .slice (some ⟨w.heap.size + 1, 0, none⟩) n n, .slice none 0 0, .int .i64 1] 45)) (w.heap.size + 2) w.heap.size (w.heap.size + 1) n := by
  refine ⟨?_, ((BlkL.made' (f := Value.int .i64) w 3 0 n).alloc _).alloc _, ?_, (by repeat (first | assumption | apply bel_alloc | apply bel_drewN | apply bel_drew | exact bel_refl _)), by omega, by omega, by omega⟩
  · have := Blk.new_ ((w.alloc (.cells (madeCells #[Value.int .i64 0] n) 3)).alloc (.cells (madeCells #[Value.bool false] n) 4)) 45 #[.slice (some ⟨w.heap.size, 0, none⟩) n n, .slice (some ⟨w.heap.size + 1, 0, none⟩) n n, .slice none 0 0, .int .i64 1]
    simpa using this
  · have := (BlkL.made' (f := Value.bool) (w.alloc (.cells (madeCells #[Value.int .i64 0] n) 3)) 4 false n)
    have h2 := this.alloc (.cells #[.slice (some ⟨w.heap.size, 0, none⟩) n n, .slice (some ⟨w.heap.size + 1, 0, none⟩) n n, .slice none 0 0, .int .i64 1] 45)
    simpa using h2
theorem new1_b (w : World) (n : Nat) : New1 w (((w.alloc (.cells (madeCells #[Value.bool false] n) 4)).alloc (.cells (madeCells #[Value.int .i64 0] n) 3)).alloc
    (.cells #[.slice (some ⟨w.heap.size + 1, 0, none⟩) n n, .slice (some ⟨w.heap.size, 0, none⟩) n n, .slice none 0 0, .int .i64 1] 45)) (w.heap.size + 2) (w.heap.size + 1) w.heap.size n := by
  refine ⟨?_, ?_, ((BlkL.made' (f := Value.bool) w 4 false n).alloc _).alloc _, (by repeat (first | assumption | apply bel_alloc | apply bel_drewN | apply bel_drew | exact bel_refl _)), by omega, by omega, by omega⟩
  · have := Blk.new_ ((w.alloc (.cells (madeCells #[Value.bool false] n) 4)).alloc (.cells (madeCells #[Value.int .i64 0] n) 3)) 45 #[.slice (some ⟨w.heap.size + 1, 0, none⟩) n n, .slice (some ⟨w.heap.size, 0, none⟩) n n, .slice none 0 0, .int .i64 1]
    simpa using this
  · have := (BlkL.made' (f := Value.int .i64) (w.alloc (.cells (madeCells #[Value.bool false] n) 4)) 3 0 n)
    have h2 := this.alloc (.cells #[.slice (some ⟨w.heap.size + 1, 0, none⟩) n n, .slice (some ⟨w.heap.size, 0, none⟩) n n, .slice none 0 0, .int .i64 1] 45)
    simpa using h2

theorem New1.drew {w w1 : World} {g bk bo n : Nat} (h : New1 w w1 g bk bo n) : New1 w w1.drew g bk bo n := ⟨h.1, h.2.1, h.2.2.1, bel_drew h.2.2.2.1, h.2.2.2.2⟩
theorem node_rep (key : Int → Int) (n : Nat) : (fun j => decide (j < n)) = innOf (List.replicate n false) := by funext j; exact (innOf_new n j).symm
theorem pow_next {H m : Nat} (h : 2 ^ H < m) (hm : m ≤ 1000) : 2 ^ (H + 1) ≤ 2000 := by rw [Nat.pow_succ]; omega

set_option maxRecDepth 100000 in
set_option maxHeartbeats 4000000 in
theorem tree_New (n : Int) (w : World) (hn : n ≤ 1000) :
    Calls Try.prog 4 #[.int .i64 n] w fun e w' => ∃ g, e = .returned (.pointer (some ⟨g, 0, none⟩)) ∧ IsTree w' w.heap.size w'.heap.size g (List.replicate n.toNat 0) (List.replicate n.toNat false) ∧ Below w.heap.size w w' := by
  obtain ⟨m, hm⟩ : ∃ m : Nat, max n 0 = (m : Int) := ⟨n.toNat, by omega⟩
  have HN := hid' (show n.toNat = m by omega)
  have hm1 : m ≤ 1000 := by omega
  have hmk := mk1_run (P := Try.prog) 22 3 (.int .i64 0) 8 Try.underlying22 (by kernel_rfl) rfl m (by omega) (by omega)
  have hmb := mk1_run (P := Try.prog) 43 4 (.bool false) 1 Try.underlying43 (by kernel_rfl) rfl m (by omega) (by omega)
  go_enter Try.func4, Try.ntmps4
  go_wp2
  go_region
  · have hN := (new1_a w m).drew
    revert hN
    generalize (((w.alloc (.cells (madeCells #[Value.int .i64 0] m) 3)).alloc (.cells (madeCells #[Value.bool false] m) 4)).alloc (.cells #[.slice (some ⟨w.heap.size, 0, none⟩) m m, .slice (some ⟨w.heap.size + 1, 0, none⟩) m m, .slice none 0 0, .int .i64 1] 45)).drew = w1
    generalize w.heap.size + 2 = g
    generalize w.heap.size + 1 = bo
    generalize w.heap.size = bk
    intro hN
    obtain ⟨hg, hk, ho, hb, b1, b2, b3⟩ := hN
    have HK := hid' hk
    have HO := hid' ho
    have HG := hid' hg
    have HB := hid' hb
    have hgk : g ≠ bk := Blk.ne hg hk (by decide)
    have hgo : g ≠ bo := Blk.ne hg ho (by decide)
    have hko : bk ≠ bo := Blk.ne hk ho (by decide)
    clear hg hk ho hb hmk hmb
    go_wp2
    go_loopw [14] (fun v14 wr => ∃ H : Nat, 2 ^ H ≤ 2000 ∧ Hid (Blk wr g 45 #[.slice (some ⟨bk, 0, none⟩) m m, .slice (some ⟨bo, 0, none⟩) m m, .slice none 0 0, .int .i64 ((2 ^ H : Nat) : Int)] ∧ BlkL (Value.int .i64) wr bk 3 (List.replicate m 0) ∧ BlkL Value.bool wr bo 4 (List.replicate m false) ∧ Below w.heap.size w wr)) (fun _ wr => 4000 - (intOf ((wr.cell? ⟨g, 3, none⟩).getD undef)).toNat)
    case atStart => exact ⟨0, by decide, HG.out, HK.out, HO.out, HB.out⟩
    case round =>
      obtain ⟨H, hH, hh⟩ := hrel
      have h3 : wr.cell? ⟨g, 3, none⟩ = some (.int .i64 ((2 ^ H : Nat) : Int)) := by simpa using hh.out.1.cell 3
      have f3 := hh.out.1.frozen 3
      have HH := hh
      clear hh
      by_cases hlt : ((2 ^ H : Nat) : Int) < n
      · have hpn := pow_next (m := m) (H := H) (by omega) hm1
        have HP := hid' (Nat.pow_succ 2 H)
        generalize hs : 2 ^ H = s at *
        have hs2 : (s : Int) ≤ 2000 := by omega
        have hs1 : 1 ≤ s := by rw [← hs]; exact Nat.one_le_two_pow
        have HS := hid' hs
        clear hs
        go_wp2
        go_roundw
        case rel =>
          refine ⟨H + 1, hpn, ?_⟩
          refine ⟨(HH.out.1.set 3 _).cast ?_, HH.out.2.1.far (p := ⟨g, 3, none⟩) hgk.symm _, HH.out.2.2.1.far (p := ⟨g, 3, none⟩) hgo.symm _, bel_set HH.out.2.2.2 b1 _⟩
          have e2 : (s : Int) * 2 = ((2 ^ (H + 1) : Nat) : Int) := by have := HP.out; have h1 : 2 ^ (H + 1) = s * 2 := this; rw [h1]; omega
          simp only [e2]
          simp
        case measure =>
          rw [World.cell?_setCell_same _ _ _ h3, h3]
          simp [intOf]; omega
      · have hp1 : 1 ≤ 2 ^ H := Nat.one_le_two_pow
        generalize hs : 2 ^ H = s at *
        have HPW := hid' (show m ≤ s by omega)
        have HS := hid' hs
        obtain ⟨z, hz⟩ : ∃ z, z = 2 * s := ⟨_, rfl⟩
        have hz2 : 2 * (s : Int) = (z : Int) := by omega
        have hz3 : z ≤ 4000 := by omega
        have hmk := mk1_run (P := Try.prog) 22 3 (.int .i64 0) 8 Try.underlying22 (by kernel_rfl) rfl z (by omega) (by omega)
        have h2 : wr.cell? ⟨g, 2, none⟩ = some (.slice none 0 0) := by simpa using HH.out.1.cell 2
        have f2 := HH.out.1.frozen 2
        have hgl := HH.out.1.lt
        have h2' := (World.cell?_of_block (w := wr) (w' := wr.alloc (.cells (madeCells #[Value.int .i64 0] z) 3)) (a := ⟨g, 2, none⟩) (Below.heap_alloc _ _ _ hgl)).trans h2
        have HZ := hid' hz
        clear hs hz
        have hG1 := ((HH.out.1.set 2 (.slice (some ⟨wr.heap.size, 0, none⟩) z z)).cast (cs' := #[.slice (some ⟨bk, 0, none⟩) m m, .slice (some ⟨bo, 0, none⟩) m m, .slice (some ⟨wr.heap.size, 0, none⟩) z z, .int .i64 (s : Int)]) (by simp)).alloc (.cells (madeCells #[Value.int .i64 0] z) 3)
        have hK1 := (HH.out.2.1.far (p := ⟨g, 2, none⟩) hgk.symm (.slice (some ⟨wr.heap.size, 0, none⟩) z z)).alloc (.cells (madeCells #[Value.int .i64 0] z) 3)
        have hO1 := (HH.out.2.2.1.far (p := ⟨g, 2, none⟩) hgo.symm (.slice (some ⟨wr.heap.size, 0, none⟩) z z)).alloc (.cells (madeCells #[Value.int .i64 0] z) 3)
        have hW1 := BlkL.made' (f := Value.int .i64) (wr.setCell ⟨g, 2, none⟩ (.slice (some ⟨wr.heap.size, 0, none⟩) z z)) 3 0 z
        rw [show (wr.setCell ⟨g, 2, none⟩ (.slice (some ⟨wr.heap.size, 0, none⟩) z z)).heap.size = wr.heap.size by simp] at hW1
        have hB1 := bel_alloc (bel_set HH.out.2.2.2 (p := ⟨g, 2, none⟩) b1 (.slice (some ⟨wr.heap.size, 0, none⟩) z z)) (.cells (madeCells #[Value.int .i64 0] z) 3)
        have b4 : w.heap.size ≤ wr.heap.size := HH.out.2.2.2.size
        have hkl := HH.out.2.1.lt
        have hol := HH.out.2.2.1.lt
        have HG1 := hid' hG1
        have HK1 := hid' hK1
        have HO1 := hid' hO1
        have HW1 := hid' hW1
        have HB1 := hid' hB1
        clear hG1 hK1 hO1 hW1 hB1
        go_wp2_with fail
        clear h2 h2' h3 f2 f3 hmk HH
        generalize (wr.setCell ⟨g, 2, none⟩ (.slice (some ⟨wr.heap.size, 0, none⟩) z z)).alloc (.cells (madeCells #[Value.int .i64 0] z) 3) = w2 at *
        generalize wr.heap.size = bw at *
        have hgw : g ≠ bw := by omega
        have hkw : bk ≠ bw := by omega
        have how : bo ≠ bw := by omega
        go_loopw [41] (fun v41 wr => ∃ k : Nat, k ≤ z ∧ v41 = .int .i64 k ∧ BlkL (Value.int .i64) wr bw 3 (List.replicate k (-1) ++ List.replicate (z - k) 0) ∧ Mod (fun k => k = bw) w2 wr) (fun v41 _ => z - (intOf v41).toNat)
        case atStart => exact ⟨0, Nat.zero_le _, rfl, by simpa using HW1.out, Mod.refl _ _⟩
        case round =>
          obtain ⟨k, hk, rfl, hb, hM⟩ := hrel
          have HBb := hid' hb
          have HM := hid' hM
          by_cases hlt2 : k < z
          · have c2 : wr.cell? ⟨g, 2, none⟩ = some (.slice (some ⟨bw, 0, none⟩) z z) := by simpa using (HG1.out.mod hM hgw).cell 2
            have hc := hb.cell (fill_get (-1) 0 hlt2)
            have hf := hb.frozen k
            clear hb hM
            go_wp2
            go_roundw
            case rel => exact ⟨k + 1, by omega, by go_num, by rw [← fill_set (-1) 0 hlt2]; exact HBb.out.set k (-1), HM.out.setCell (p := ⟨bw, k, none⟩) (fun _ => rfl) _⟩
            case measure => simp [intOf]; omega
          · have hkz : k = z := by omega
            subst hkz
            rw [Nat.sub_self, List.replicate_zero, List.append_nil] at hb
            have c0 : wr.cell? ⟨g, 0, none⟩ = some (.slice (some ⟨bk, 0, none⟩) m m) := by simpa using (HG1.out.mod hM hgw).cell 0
            have hT : TreeB wr g bk bo bw (List.replicate m 0) (List.replicate m false) (List.replicate k (-1)) s :=
              ⟨by rw [List.length_replicate, ← HZ.out]; exact HG1.out.mod hM hgw, HK1.out.mod hM hkw, HO1.out.mod hM how, hb, hkw, by simp, by rw [List.length_replicate]; exact HZ.out, by omega, by rw [List.length_replicate]; exact HPW.out⟩
            have HT := hid' hT
            have HIv := hid' (Inv.none (keyOf (List.replicate m 0)) (fun j => decide (j < 0)) s k (by intro j; simp))
            have HBw := hid' (bel_mod HB1.out hM (by intro i hi; omega))
            clear hb hM hT HBb HM
            go_wp2
            clear c0
            go_loopw [56] (fun v56 wr => ∃ (i : Nat) (won : List Int), i ≤ m ∧ v56 = .int .i64 i ∧ TreeB wr g bk bo bw (List.replicate m 0) (List.replicate m false) won s ∧ Hid (Inv (keyOf (List.replicate m 0)) (fun j => decide (j < i)) s (wonF won)) ∧ Below w.heap.size w wr) (fun v56 _ => m - (intOf v56).toNat)
            case atStart => exact ⟨0, _, Nat.zero_le _, rfl, HT.out, HIv.out, HBw.out⟩
            case round =>
              obtain ⟨i, won, hi, rfl, hT, hV, hbw⟩ := hrel
              by_cases hlt3 : i < m
              · have hpl := tree_play g bk bo bw H i (List.replicate m 0) (List.replicate m false) won (fun j => decide (j < i + 1)) wr (by rw [HS.out]; exact hT) (by rw [List.length_replicate]; exact hlt3) (by rw [innOf_new]; simp [hlt3])
                  (fun j hj => by rw [List.length_replicate]; have := of_decide_eq_true hj; omega)
                  (Inv.fit (by rw [HS.out]; exact hV.out) (fun j hj => ⟨by show decide (j < i) = decide (j < i + 1); rw [Bool.eq_iff_iff]; simp; omega, rfl⟩))
                have HPL := hid' hpl
                clear hT hpl
                go_wp2_with fail
                refine HPL.out.mono ?_
                rintro e w' ⟨rfl, won', h1, h2, h3⟩
                have HX := hid' (show TreeB w' g bk bo bw (List.replicate m 0) (List.replicate m false) won' s ∧ Inv (keyOf (List.replicate m 0)) (fun j => decide (j < i + 1)) s (wonF won') ∧ Below w.heap.size w w' from by
                  rw [← HS.out]; exact ⟨h1, h2, bel_mod hbw h3 (by intro i hi; omega)⟩)
                clear h1 h2 h3 hbw HPL
                go_wp2
                go_roundw
                case rel => exact ⟨i + 1, won', by omega, by go_num, HX.out.1, HX.out.2.1, HX.out.2.2⟩
                case measure => simp [intOf]; omega
              · have him : i = m := by omega
                subst him
                have HT2 := hid' hT
                clear hT
                go_wp2
                go_ret
                refine ⟨g, rfl, ?_, hbw⟩
                rw [HN.out]
                have l1 := HT2.out.1.lt
                have l2 := HT2.out.2.1.lt
                have l3 := HT2.out.2.2.1.lt
                have l4 := HT2.out.2.2.2.1.lt
                refine ⟨bk, bo, bw, H, won, by rw [HS.out]; exact HT2.out, ⟨⟨b1, l1⟩, ⟨b2, l2⟩, ⟨b3, l3⟩, ⟨b4, l4⟩⟩, ?_⟩
                rw [HS.out, ← node_rep (keyOf (List.replicate i 0)) i]
                exact hV.out
  · have hN := (new1_b w m).drew
    revert hN
    generalize (((w.alloc (.cells (madeCells #[Value.bool false] m) 4)).alloc (.cells (madeCells #[Value.int .i64 0] m) 3)).alloc (.cells #[.slice (some ⟨w.heap.size + 1, 0, none⟩) m m, .slice (some ⟨w.heap.size, 0, none⟩) m m, .slice none 0 0, .int .i64 1] 45)).drew = w1
    generalize w.heap.size + 2 = g
    generalize w.heap.size + 1 = bk
    generalize w.heap.size = bo
    intro hN
    obtain ⟨hg, hk, ho, hb, b1, b2, b3⟩ := hN
    have HK := hid' hk
    have HO := hid' ho
    have HG := hid' hg
    have HB := hid' hb
    have hgk : g ≠ bk := Blk.ne hg hk (by decide)
    have hgo : g ≠ bo := Blk.ne hg ho (by decide)
    have hko : bk ≠ bo := Blk.ne hk ho (by decide)
    clear hg hk ho hb hmk hmb
    go_wp2
    go_loopw [14] (fun v14 wr => ∃ H : Nat, 2 ^ H ≤ 2000 ∧ Hid (Blk wr g 45 #[.slice (some ⟨bk, 0, none⟩) m m, .slice (some ⟨bo, 0, none⟩) m m, .slice none 0 0, .int .i64 ((2 ^ H : Nat) : Int)] ∧ BlkL (Value.int .i64) wr bk 3 (List.replicate m 0) ∧ BlkL Value.bool wr bo 4 (List.replicate m false) ∧ Below w.heap.size w wr)) (fun _ wr => 4000 - (intOf ((wr.cell? ⟨g, 3, none⟩).getD undef)).toNat)
    case atStart => exact ⟨0, by decide, HG.out, HK.out, HO.out, HB.out⟩
    case round =>
      obtain ⟨H, hH, hh⟩ := hrel
      have h3 : wr.cell? ⟨g, 3, none⟩ = some (.int .i64 ((2 ^ H : Nat) : Int)) := by simpa using hh.out.1.cell 3
      have f3 := hh.out.1.frozen 3
      have HH := hh
      clear hh
      by_cases hlt : ((2 ^ H : Nat) : Int) < n
      · have hpn := pow_next (m := m) (H := H) (by omega) hm1
        have HP := hid' (Nat.pow_succ 2 H)
        generalize hs : 2 ^ H = s at *
        have hs2 : (s : Int) ≤ 2000 := by omega
        have hs1 : 1 ≤ s := by rw [← hs]; exact Nat.one_le_two_pow
        have HS := hid' hs
        clear hs
        go_wp2
        go_roundw
        case rel =>
          refine ⟨H + 1, hpn, ?_⟩
          refine ⟨(HH.out.1.set 3 _).cast ?_, HH.out.2.1.far (p := ⟨g, 3, none⟩) hgk.symm _, HH.out.2.2.1.far (p := ⟨g, 3, none⟩) hgo.symm _, bel_set HH.out.2.2.2 b1 _⟩
          have e2 : (s : Int) * 2 = ((2 ^ (H + 1) : Nat) : Int) := by have := HP.out; have h1 : 2 ^ (H + 1) = s * 2 := this; rw [h1]; omega
          simp only [e2]
          simp
        case measure =>
          rw [World.cell?_setCell_same _ _ _ h3, h3]
          simp [intOf]; omega
      · have hp1 : 1 ≤ 2 ^ H := Nat.one_le_two_pow
        generalize hs : 2 ^ H = s at *
        have HPW := hid' (show m ≤ s by omega)
        have HS := hid' hs
        obtain ⟨z, hz⟩ : ∃ z, z = 2 * s := ⟨_, rfl⟩
        have hz2 : 2 * (s : Int) = (z : Int) := by omega
        have hz3 : z ≤ 4000 := by omega
        have hmk := mk1_run (P := Try.prog) 22 3 (.int .i64 0) 8 Try.underlying22 (by kernel_rfl) rfl z (by omega) (by omega)
        have h2 : wr.cell? ⟨g, 2, none⟩ = some (.slice none 0 0) := by simpa using HH.out.1.cell 2
        have f2 := HH.out.1.frozen 2
        have hgl := HH.out.1.lt
        have h2' := (World.cell?_of_block (w := wr) (w' := wr.alloc (.cells (madeCells #[Value.int .i64 0] z) 3)) (a := ⟨g, 2, none⟩) (Below.heap_alloc _ _ _ hgl)).trans h2
        have HZ := hid' hz
        clear hs hz
        have hG1 := ((HH.out.1.set 2 (.slice (some ⟨wr.heap.size, 0, none⟩) z z)).cast (cs' := #[.slice (some ⟨bk, 0, none⟩) m m, .slice (some ⟨bo, 0, none⟩) m m, .slice (some ⟨wr.heap.size, 0, none⟩) z z, .int .i64 (s : Int)]) (by simp)).alloc (.cells (madeCells #[Value.int .i64 0] z) 3)
        have hK1 := (HH.out.2.1.far (p := ⟨g, 2, none⟩) hgk.symm (.slice (some ⟨wr.heap.size, 0, none⟩) z z)).alloc (.cells (madeCells #[Value.int .i64 0] z) 3)
        have hO1 := (HH.out.2.2.1.far (p := ⟨g, 2, none⟩) hgo.symm (.slice (some ⟨wr.heap.size, 0, none⟩) z z)).alloc (.cells (madeCells #[Value.int .i64 0] z) 3)
        have hW1 := BlkL.made' (f := Value.int .i64) (wr.setCell ⟨g, 2, none⟩ (.slice (some ⟨wr.heap.size, 0, none⟩) z z)) 3 0 z
        rw [show (wr.setCell ⟨g, 2, none⟩ (.slice (some ⟨wr.heap.size, 0, none⟩) z z)).heap.size = wr.heap.size by simp] at hW1
        have hB1 := bel_alloc (bel_set HH.out.2.2.2 (p := ⟨g, 2, none⟩) b1 (.slice (some ⟨wr.heap.size, 0, none⟩) z z)) (.cells (madeCells #[Value.int .i64 0] z) 3)
        have b4 : w.heap.size ≤ wr.heap.size := HH.out.2.2.2.size
        have hkl := HH.out.2.1.lt
        have hol := HH.out.2.2.1.lt
        have HG1 := hid' hG1
        have HK1 := hid' hK1
        have HO1 := hid' hO1
        have HW1 := hid' hW1
        have HB1 := hid' hB1
        clear hG1 hK1 hO1 hW1 hB1
        go_wp2_with fail
        clear h2 h2' h3 f2 f3 hmk HH
        generalize (wr.setCell ⟨g, 2, none⟩ (.slice (some ⟨wr.heap.size, 0, none⟩) z z)).alloc (.cells (madeCells #[Value.int .i64 0] z) 3) = w2 at *
        generalize wr.heap.size = bw at *
        have hgw : g ≠ bw := by omega
        have hkw : bk ≠ bw := by omega
        have how : bo ≠ bw := by omega
        go_loopw [41] (fun v41 wr => ∃ k : Nat, k ≤ z ∧ v41 = .int .i64 k ∧ BlkL (Value.int .i64) wr bw 3 (List.replicate k (-1) ++ List.replicate (z - k) 0) ∧ Mod (fun k => k = bw) w2 wr) (fun v41 _ => z - (intOf v41).toNat)
        case atStart => exact ⟨0, Nat.zero_le _, rfl, by simpa using HW1.out, Mod.refl _ _⟩
        case round =>
          obtain ⟨k, hk, rfl, hb, hM⟩ := hrel
          have HBb := hid' hb
          have HM := hid' hM
          by_cases hlt2 : k < z
          · have c2 : wr.cell? ⟨g, 2, none⟩ = some (.slice (some ⟨bw, 0, none⟩) z z) := by simpa using (HG1.out.mod hM hgw).cell 2
            have hc := hb.cell (fill_get (-1) 0 hlt2)
            have hf := hb.frozen k
            clear hb hM
            go_wp2
            go_roundw
            case rel => exact ⟨k + 1, by omega, by go_num, by rw [← fill_set (-1) 0 hlt2]; exact HBb.out.set k (-1), HM.out.setCell (p := ⟨bw, k, none⟩) (fun _ => rfl) _⟩
            case measure => simp [intOf]; omega
          · have hkz : k = z := by omega
            subst hkz
            rw [Nat.sub_self, List.replicate_zero, List.append_nil] at hb
            have c0 : wr.cell? ⟨g, 0, none⟩ = some (.slice (some ⟨bk, 0, none⟩) m m) := by simpa using (HG1.out.mod hM hgw).cell 0
            have hT : TreeB wr g bk bo bw (List.replicate m 0) (List.replicate m false) (List.replicate k (-1)) s :=
              ⟨by rw [List.length_replicate, ← HZ.out]; exact HG1.out.mod hM hgw, HK1.out.mod hM hkw, HO1.out.mod hM how, hb, hkw, by simp, by rw [List.length_replicate]; exact HZ.out, by omega, by rw [List.length_replicate]; exact HPW.out⟩
            have HT := hid' hT
            have HIv := hid' (Inv.none (keyOf (List.replicate m 0)) (fun j => decide (j < 0)) s k (by intro j; simp))
            have HBw := hid' (bel_mod HB1.out hM (by intro i hi; omega))
            clear hb hM hT HBb HM
            go_wp2
            clear c0
            go_loopw [56] (fun v56 wr => ∃ (i : Nat) (won : List Int), i ≤ m ∧ v56 = .int .i64 i ∧ TreeB wr g bk bo bw (List.replicate m 0) (List.replicate m false) won s ∧ Hid (Inv (keyOf (List.replicate m 0)) (fun j => decide (j < i)) s (wonF won)) ∧ Below w.heap.size w wr) (fun v56 _ => m - (intOf v56).toNat)
            case atStart => exact ⟨0, _, Nat.zero_le _, rfl, HT.out, HIv.out, HBw.out⟩
            case round =>
              obtain ⟨i, won, hi, rfl, hT, hV, hbw⟩ := hrel
              by_cases hlt3 : i < m
              · have hpl := tree_play g bk bo bw H i (List.replicate m 0) (List.replicate m false) won (fun j => decide (j < i + 1)) wr (by rw [HS.out]; exact hT) (by rw [List.length_replicate]; exact hlt3) (by rw [innOf_new]; simp [hlt3])
                  (fun j hj => by rw [List.length_replicate]; have := of_decide_eq_true hj; omega)
                  (Inv.fit (by rw [HS.out]; exact hV.out) (fun j hj => ⟨by show decide (j < i) = decide (j < i + 1); rw [Bool.eq_iff_iff]; simp; omega, rfl⟩))
                have HPL := hid' hpl
                clear hT hpl
                go_wp2_with fail
                refine HPL.out.mono ?_
                rintro e w' ⟨rfl, won', h1, h2, h3⟩
                have HX := hid' (show TreeB w' g bk bo bw (List.replicate m 0) (List.replicate m false) won' s ∧ Inv (keyOf (List.replicate m 0)) (fun j => decide (j < i + 1)) s (wonF won') ∧ Below w.heap.size w w' from by
                  rw [← HS.out]; exact ⟨h1, h2, bel_mod hbw h3 (by intro i hi; omega)⟩)
                clear h1 h2 h3 hbw HPL
                go_wp2
                go_roundw
                case rel => exact ⟨i + 1, won', by omega, by go_num, HX.out.1, HX.out.2.1, HX.out.2.2⟩
                case measure => simp [intOf]; omega
              · have him : i = m := by omega
                subst him
                have HT2 := hid' hT
                clear hT
                go_wp2
                go_ret
                refine ⟨g, rfl, ?_, hbw⟩
                rw [HN.out]
                have l1 := HT2.out.1.lt
                have l2 := HT2.out.2.1.lt
                have l3 := HT2.out.2.2.1.lt
                have l4 := HT2.out.2.2.2.1.lt
                refine ⟨bk, bo, bw, H, won, by rw [HS.out]; exact HT2.out, ⟨⟨b1, l1⟩, ⟨b2, l2⟩, ⟨b3, l3⟩, ⟨b4, l4⟩⟩, ?_⟩
                rw [HS.out, ← node_rep (keyOf (List.replicate i 0)) i]
                exact hV.out
end Go.Proofs.Ytgbcnlchpolcbaa
