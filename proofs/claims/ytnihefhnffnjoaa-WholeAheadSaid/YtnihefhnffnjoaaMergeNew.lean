
/- A merge anew. No condition. -/
import Derived.Test.YtnihefhnffnjoaaMerge
namespace Go.Proofs.Ytnihefhnffnjoaa
open Go.RowKit
set_option linter.unusedVariables false

theorem IsTree.bel {w w' : World} {lo hi g : Nat} {keys : List Int} {outs : List Bool} (h : IsTree w lo hi g keys outs) (m : Below w.heap.size w w') : IsTree w' lo hi g keys outs := h.mod (Mod.of_below (S := fun _ => False) m) (fun _ _ _ h => h)
theorem IsTree.alloc {w : World} {lo hi g : Nat} {keys : List Int} {outs : List Bool} (h : IsTree w lo hi g keys outs) (o : Obj) : IsTree (w.alloc o) lo hi g keys outs := h.bel (bel_alloc (bel_refl _) _)
theorem IsTree.drew {w : World} {lo hi g : Nat} {keys : List Int} {outs : List Bool} (h : IsTree w lo hi g keys outs) : IsTree w.drew lo hi g keys outs := h
theorem BlkL.drew {α : Type} {f : α → Value} {w : World} {b : Nat} {T : TypeId} {xs : List α} (h : BlkL f w b T xs) : BlkL f w.drew b T xs := h
def NewM (w wx : World) (g m : Nat) : Prop :=
  ∃ t0 l0 h0 t1 l1 h1 bi, MergeB wx g 0 false t0 l0 h0 (List.replicate m 0) (List.replicate m false) t1 l1 h1 (List.replicate m 0) (List.replicate m false) bi (List.replicate m 0) ∧ Below w.heap.size w wx ∧ (w.heap.size ≤ g ∧ w.heap.size ≤ l0 ∧ w.heap.size ≤ l1 ∧ w.heap.size ≤ bi) ∧ h0 ≤ wx.heap.size ∧ h1 ≤ wx.heap.size
theorem NewM.fin {w W : World} {m t0 l0 h0 t1 l1 h1 bi : Nat} (ht0 : IsTree W l0 h0 t0 (List.replicate m 0) (List.replicate m false)) (ht1 : IsTree W l1 h1 t1 (List.replicate m 0) (List.replicate m false)) (hi : BlkL (Value.int .i64) W bi 3 (List.replicate m 0))
    (hB : Below w.heap.size w W) (d : (h0 ≤ l1 ∨ h1 ≤ l0) ∧ (bi < l0 ∨ h0 ≤ bi) ∧ (bi < l1 ∨ h1 ≤ bi)) (b : w.heap.size ≤ l0 ∧ w.heap.size ≤ l1 ∧ w.heap.size ≤ bi ∧ h0 ≤ W.heap.size ∧ h1 ≤ W.heap.size) {gg : Nat} (hgg : W.heap.size = gg) :
    NewM w (W.alloc (.cells #[.int .i64 0, .bool false, .pointer (some ⟨t0, 0, none⟩), .pointer (some ⟨t1, 0, none⟩), .slice (some ⟨bi, 0, none⟩) m m] 96)) gg m := by
  subst hgg
  have hs := hB.size
  refine ⟨t0, l0, h0, t1, l1, h1, bi, ⟨?_, ht0.alloc _, ht1.alloc _, hi.alloc _, by omega, rfl, rfl, by unfold I64; omega⟩, bel_alloc hB _, ⟨hs, b.1, b.2.1, b.2.2.1⟩, by simp; omega, by simp; omega⟩
  rw [List.length_replicate]
  exact Blk.new_ W _ _
theorem NewM.drew {w W : World} {g m : Nat} (h : NewM w W g m) : NewM w W.drew g m := by
  obtain ⟨t0, l0, h0, t1, l1, h1, bi, hb, hB, h⟩ := h
  exact ⟨t0, l0, h0, t1, l1, h1, bi, hb, bel_drew hB, h⟩

set_option maxRecDepth 100000 in
set_option maxHeartbeats 4000000 in
theorem merge_New (n : Int) (w : World) (hn : n ≤ 1000) :
    Calls Try.prog 40 #[.int .i64 n] w fun e w' => ∃ g, e = .returned (.pointer (some ⟨g, 0, none⟩)) ∧ IsMerge w' w.heap.size w'.heap.size g (List.replicate n.toNat NEV) (List.replicate n.toNat 0) NEV ∧ Below w.heap.size w w' := by
  obtain ⟨m, hm⟩ : ∃ m : Nat, max n 0 = (m : Int) := ⟨n.toNat, by omega⟩
  have hN : n.toNat = m := by omega
  have HN := hid' hN
  have hm1 : m ≤ 1000 := by omega
  have hmk := mk1_run (P := Try.prog) 42 3 (.int .i64 0) 8 Try.underlying42 (by kernel_rfl) rfl m (by omega) (by omega)
  have HT := hid' (fun W => tree_New n W hn)
  rw [hN] at HT
  clear hN
  go_enter Try.func40, Try.ntmps40
  go_upto_region 1 with (fail)
  go_cut [3] from 5 (fun v3 wx => ∃ g, v3 = .pointer (some ⟨g, 0, none⟩) ∧ NewM w wx g m)
  case first =>
    go_region_with (go_at_call 33; refine (HT.out _).mono ?_; rintro e w' ⟨g, rfl, ht, hb⟩)
    all_goals
      clear HN hmk
      rename_i w5 g5 ht5 hb5
      go_wp2_with fail
      have s1 := hb5.size
      have s2 := hb.size
      simp at s1 s2
      go_meet
      refine ⟨_, rfl, ?_⟩
      repeat refine NewM.drew ?_
      first
        | refine NewM.fin (m := m) ((ht5.bel hb).alloc _) (ht.alloc _) (BlkL.made' w' _ _ _) (bel_alloc (bel_then (bel_then (bel_drew (bel_refl w)) hb5) hb) _) ?_ ?_ ?_
        | refine NewM.fin (m := m) (ht.alloc _) ((ht5.bel hb).alloc _) (BlkL.made' w' _ _ _) (bel_alloc (bel_then (bel_then (bel_drew (bel_refl w)) hb5) hb) _) ?_ ?_ ?_
        | refine NewM.fin (m := m) ((ht5.alloc _).bel hb) ht ((BlkL.made' w5 _ _ _).below hb) (bel_then (bel_alloc (bel_then (bel_drew (bel_refl w)) hb5) _) hb) ?_ ?_ ?_
        | refine NewM.fin (m := m) ht ((ht5.alloc _).bel hb) ((BlkL.made' w5 _ _ _).below hb) (bel_then (bel_alloc (bel_then (bel_drew (bel_refl w)) hb5) _) hb) ?_ ?_ ?_
        | refine NewM.fin (m := m) (ht5.bel hb) ht (((BlkL.made' w.drew _ _ _).below hb5).below hb) (bel_then (bel_then (bel_alloc (bel_drew (bel_refl w)) _) hb5) hb) ?_ ?_ ?_
        | refine NewM.fin (m := m) ht (ht5.bel hb) (((BlkL.made' w.drew _ _ _).below hb5).below hb) (bel_then (bel_then (bel_alloc (bel_drew (bel_refl w)) _) hb5) hb) ?_ ?_ ?_
      all_goals (simp; try omega)
  case rest =>
    obtain ⟨g, rfl, hC⟩ := hcut
    obtain ⟨t0, l0, h0, t1, l1, h1, bi, hM, hB, hlo, hh0, hh1⟩ := hC
    have hMr := hlo
    have HM := hid' hM
    have HB := hid' hB
    have HHi := hid' (show h0 ≤ wc.heap.size ∧ h1 ≤ wc.heap.size from ⟨hh0, hh1⟩)
    have HLo := hid' hlo
    have c4 := hM.c4
    rw [List.length_replicate] at c4
    clear hM hB hlo hh0 hh1 hmk hMr HT
    go_wp2
    clear c4
    go_loopw [20] (fun v20 wr => ∃ k : Nat, k ≤ m ∧ v20 = .int .i64 k ∧ Hid (MergeB wr g 0 false t0 l0 h0 (List.replicate k NEV ++ List.replicate (m - k) 0) (List.replicate m false) t1 l1 h1 (List.replicate k NEV ++ List.replicate (m - k) 0) (List.replicate k true ++ List.replicate (m - k) false) bi (List.replicate m 0)) ∧ Below w.heap.size w wr ∧ Hid (wc.heap.size ≤ wr.heap.size)) (fun v20 _ => m - (intOf v20).toNat)
    case atStart => exact ⟨0, Nat.zero_le _, rfl, by unfold Hid; simpa using HM.out, HB.out, Nat.le_refl _⟩
    case round =>
      obtain ⟨k, hk, rfl, HR, hbw, HSz⟩ := hrel
      by_cases hlt : k < m
      · go_wp2_with fail
        refine (mergeB_Mark g 0 false t0 l0 h0 _ _ t1 l1 h1 _ _ bi _ (k : Int) NEV wr HR.out).mono ?_
        rintro e w5 ⟨rfl, hm5, hd5⟩
        have hbw5 := bel_mod hbw hd5 (by intro i hi hr; have := HLo.out; unfold RngM at hr; omega)
        have HR5 := hid' hm5
        have HSz5 := hid' (Nat.le_trans HSz.out hd5.size)
        clear hm5 hd5
        go_wp2_with fail
        refine (mergeB_Is g 0 false t0 l0 h0 _ _ t1 l1 h1 _ _ bi _ (k : Int) 0 w5 HR5.out).mono ?_
        rintro e w6 ⟨rfl, hm6, hd6⟩
        have hbw6 := bel_mod hbw5 hd6 (by intro i hi hr; have := HLo.out; unfold RngM at hr; omega)
        have HR6 := hid' hm6
        have HSz6 := hid' (Nat.le_trans HSz5.out hd6.size)
        have HA1 := hid' (show alSet (List.replicate k NEV ++ List.replicate (m - k) 0) (k : Int) NEV = List.replicate (k + 1) NEV ++ List.replicate (m - (k + 1)) 0 by unfold alSet; rw [if_pos (by omega), Int.toNat_natCast, fill_set NEV 0 hlt])
        have HA2 := hid' (show bSet (List.replicate m false) (k : Int) ((0 : Int) != 0) = List.replicate m false by unfold bSet; rw [if_pos (by omega), Int.toNat_natCast]; apply List.ext_getElem? ; intro i; rw [List.getElem?_set]; split <;> simp_all)
        have HA3 := hid' (show bSet (List.replicate k true ++ List.replicate (m - k) false) (k : Int) ((0 : Int) != 1) = List.replicate (k + 1) true ++ List.replicate (m - (k + 1)) false by unfold bSet; rw [if_pos (by omega), Int.toNat_natCast]; exact fill_set true false hlt)
        have HA4 := hid' (show alSet (List.replicate m (0 : Int)) (k : Int) 0 = List.replicate m 0 by unfold alSet; rw [if_pos (by omega), Int.toNat_natCast]; apply List.ext_getElem? ; intro i; rw [List.getElem?_set]; split <;> simp_all)
        clear hm6 hd6
        go_wp2
        go_roundw
        case rel =>
          refine ⟨k + 1, by omega, by go_num, ?_, hbw6, HSz6.out⟩
          have := HR6.out
          rw [HA1.out, HA2.out, HA3.out, HA4.out] at this
          exact this
        case measure => simp [intOf]; omega
      · have hkm : k = m := by omega
        subst hkm
        go_wp2
        go_ret
        refine ⟨g, rfl, ?_, hbw⟩
        rw [HN.out]
        have hR := HR.out
        rw [Nat.sub_self, List.replicate_zero, List.append_nil, List.replicate_zero, List.append_nil] at hR
        have g1 := HLo.out
        have g2 := HHi.out
        have g3 := HSz.out
        have g4 := hR.1.lt
        have g5 := hR.2.2.2.1.lt
        refine ⟨0, false, t0, l0, h0, t1, l1, h1, bi, ?_, rfl, ⟨⟨g1.1, g4⟩, ⟨g1.2.1, by omega⟩, ⟨g1.2.2.1, by omega⟩, g1.2.2.2, g5⟩, fun x hx => by rw [List.eq_of_mem_replicate hx]; exact I64.nev⟩
        rw [show outOf 0 (List.replicate k 0) = List.replicate k false by unfold outOf; rw [List.map_replicate]; rfl, show outOf 1 (List.replicate k 0) = List.replicate k true by unfold outOf; rw [List.map_replicate]; rfl]
        exact hR
end Go.Proofs.Ytnihefhnffnjoaa
