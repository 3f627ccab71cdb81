
/- Removing from a row of bins. No condition. -/
import Derived.Test.YtckndjgdfhbgcaaDoorHistB
namespace Go.Proofs.YtckndjgdfhbgcaaDoor
set_option maxRecDepth 100000
set_option linter.unusedSimpArgs false
open Go.RowKit
set_option linter.unusedVariables false

theorem set_take (l : List (Int × Nat)) (i : Nat) (a : Int × Nat) : (l.set i a).take i = l.take i := by
  apply List.ext_getElem?
  intro j
  rw [List.getElem?_take, List.getElem?_take]
  split
  · rw [List.getElem?_set_ne (by omega)]
  · rfl
theorem set_drop (l : List (Int × Nat)) (i : Nat) (a : Int × Nat) : (l.set i a).drop (i + 1) = l.drop (i + 1) := by
  apply List.ext_getElem?
  intro j
  rw [List.getElem?_drop, List.getElem?_drop, List.getElem?_set_ne (by omega)]
set_option maxHeartbeats 4000000 in
theorem HistI.remove {w : World} {g o B : Nat} {T : TypeId} {cs : Array Value} {v : Value} {bs : List (Int × Nat)} (h : HistI w g o T cs B v bs) (n : Int) :
    Calls Tryd.prog 27 #[.pointer (some ⟨g, o, none⟩), .int .i64 n] w fun e w' => e = .returned (.bool (isB n bs)) ∧ ∃ v', HistI w' g o T ((cs.setIfInBounds o v').setIfInBounds (o + 1) (.int .i64 (totB (remB n bs) : Nat))) B v' (remB n bs) ∧
      Mod (fun k => k = g ∨ v.ownBlock = some k) w w' ∧ v'.ownBlock = v.ownBlock := by
  have hne := h.ne
  have HI := hid' h
  obtain ⟨h1, h2, h3, h4, h5, h6, h7, h8⟩ := h
  obtain ⟨l1, l2⟩ := len_totB h5
  have hsz : bs.length ≤ 100000 := by omega
  have hc : w.cell? ⟨g, o, none⟩ = some v := by rw [h1.cell, h2]
  have hc1 : w.cell? ⟨g, o + 1, none⟩ = some (.int .i64 (totB bs : Nat)) := by rw [h1.cell, h3]
  have HF := hid' (hist_find g o B v bs n w hc h4 h5 hsz)
  have HW := hid' (And.intro h1 (And.intro h4 (And.intro h7 (And.intro h2 h3))))
  have HS := hid' (remB_sort n h5)
  cases hi : isB n bs
  · obtain ⟨-, ha⟩ := isB_not hi
    rw [hi] at HF
    have HA := hid' ha
    clear hi ha h1 h2 h3 h4 h5 h7 l2 hc hc1
    go_enter Tryd.func27, Tryd.ntmps27
    go_wp2_with (go_at_call 33; refine (HF.out).mono ?_; rintro e w2 ⟨rfl, hB2⟩)
    go_ret
    refine ⟨rfl, v, ?_, (Mod.of_below hB2), rfl⟩
    rw [HA.out, setIfInBounds_self HW.out.2.2.2.1, setIfInBounds_self HW.out.2.2.2.2]
    exact HI.out.below hB2
  · have ht := totB_rem n h5 hi
    obtain ⟨k, hk, -, ha⟩ := isB_at hi
    rw [hi] at HF
    have hkb := l2 _ (List.mem_of_getElem? hk)
    have hkp := h5.2 _ (List.mem_of_getElem? hk)
    simp only at hkb hkp
    obtain ⟨p, hp⟩ : ∃ p, p = posB n bs := ⟨_, rfl⟩
    rw [← hp] at HF ha hk
    have HK := hid' hk
    obtain ⟨gb, c, rfl, hBg, hgl, ⟨cur, hcur⟩, hcc, hff, hpl⟩ := own_cell h4 hk
    have hgg : g ≠ gb := fun e => hne (by rw [e]; rfl)
    have hgg' : gb ≠ g := Ne.symm hgg
    have HGG := hid' hgl
    obtain ⟨t1, ht1⟩ : ∃ t1 : Nat, t1 = totB (remB n bs) := ⟨_, rfl⟩
    rw [← ht1] at ht
    have y2 : (totB bs : Int) - 1 = (t1 : Int) := by omega
    have y4 : IntKind.i64.wrap (t1 : Int) = (t1 : Int) := by rw [IntKind.wrap_i64]; omega
    have HT := hid' ht1
    have HTB := hid' (show t1 ≤ 10000 by omega)
    have hsz0 := (Array.getElem?_eq_some_iff.1 h2).1
    have hsz1 := (Array.getElem?_eq_some_iff.1 h3).1
    clear hp hi h2 h3 h5 h7 l2 hk hc hc1 hcc hff hcur hgl h1 h4 ht ht1
    by_cases hk1 : k = 1
    · rw [if_pos hk1] at ha
      subst hk1
      have HA := hid' ha
      clear ha
      go_enter Tryd.func27, Tryd.ntmps27
      go_wp2_with (first
        | (go_at_call 33; refine (HF.out).mono ?_; rintro e w2 ⟨rfl, hB2⟩; have HW2 := hid' (And.intro (HW.out.1.below hB2) (own_below HW.out.2.1 hB2)); have d0 : w2.cell? ⟨g, o, none⟩ = some (.slice (some ⟨gb, 0, none⟩) bs.length c) := (by rw [HW2.out.1.cell, HW.out.2.2.2.1]); obtain ⟨gb', c', hve, -, -, -, d2, f2, -⟩ := own_cell HW2.out.2 HK.out; injection hve with hve _ hce; injection hve with hve; injection hve with hve; subst hve hce; have d2 : w2.cell? ⟨gb, p * 2 + 1, none⟩ = some (.int .i64 1) := d2)
        | (go_at_call 34
           have hdel := slices_DeleteB B p (.slice (some ⟨gb, 0, none⟩) bs.length c) (bs.set p (n, 0)) (w2.setCell ⟨gb, p * 2 + 1, none⟩ (.int .i64 0)) (by rw [List.length_set]; exact own_setB HW2.out.2 HK.out 0) (by rw [List.length_set]; exact hpl) (by rw [List.length_set]; exact hsz)
           refine hdel.mono ?_
           rintro e w3 ⟨v3, rfl, hO3, hM3, hv3⟩
           rw [List.length_set, set_take, set_drop, ← HA.out] at hO3
           have HW3 := hid' (And.intro (Blk.mod (HW2.out.1.far (p := ⟨gb, p * 2 + 1, none⟩) hgg (.int .i64 0)) hM3 hne) hO3)
           have d1 : w3.cell? ⟨g, o + 1, none⟩ = some (.int .i64 (totB bs : Nat)) := by rw [HW3.out.1.cell, HW.out.2.2.2.2]
           have d0 : (w3.cell? ⟨g, o, none⟩) = some (.slice (some ⟨gb, 0, none⟩) bs.length c) := by rw [HW3.out.1.cell, HW.out.2.2.2.1]
           have f0 := HW3.out.1.frozen o
           have f1 := HW3.out.1.frozen (o + 1)
           obtain ⟨A3, c3, rfl, -, -, -⟩ := own_rd hO3
           have HM3 := hid' (And.intro hM3 hv3)
           clear hO3 hM3 hv3 hdel))
      go_ret
      have hrl : (remB n bs).length = bs.length - 1 := by rw [HA.out]; simp; omega
      have hgown : (Value.slice A3 (bs.length - 1) c3).ownBlock ≠ some g := own_ne' HW3.out.2 HW3.out.1 (fun e => h8 e.symm)
      refine ⟨rfl, .slice A3 (bs.length - 1) c3, ⟨?_, ?_, ?_, ?_, HS.out, ?_, ?_, h8⟩, ?_, HM3.out.2⟩
      · rw [← HT.out]
        exact (HW3.out.1.set o _).set _ _
      · rw [Array.getElem?_setIfInBounds, if_neg (by omega), Array.getElem?_setIfInBounds, if_pos rfl, if_pos hsz0]
      · rw [Array.getElem?_setIfInBounds, if_pos rfl, if_pos (by rw [Array.size_setIfInBounds]; exact hsz1)]
      · rw [hrl]
        have h0 := own_set' HW3.out.2 (p := ⟨g, o, none⟩) hgown (.slice A3 (bs.length - 1) c3)
        exact own_set' h0 (p := ⟨g, o + 1, none⟩) hgown (.int .i64 (t1 : Int))
      · rw [← HT.out]; exact HTB.out
      · have h1 := HW.out.2.2.1; have h2 := hB2.size; have h3 := HM3.out.1.size; simp at h3 ⊢; omega
      · have hm2 : Mod (fun k => k = g ∨ (Value.slice (some ⟨gb, 0, none⟩) bs.length c).ownBlock = some k) w (w2.setCell ⟨gb, p * 2 + 1, none⟩ (.int .i64 0)) := (Mod.of_below hB2).setCell (fun _ => .inr rfl) _
        have hm3 := hm2.then_ HM3.out.1 (fun i _ h => .inr h)
        exact (hm3.setCell (p := ⟨g, o, none⟩) (fun _ => .inl rfl) _).setCell (p := ⟨g, o + 1, none⟩) (fun _ => .inl rfl) _
    · rw [if_neg hk1] at ha
      have HA := hid' ha
      obtain ⟨k1, hk1e⟩ : ∃ k1 : Nat, k1 = k - 1 := ⟨_, rfl⟩
      have y1 : (k : Int) - 1 = (k1 : Int) := by omega
      have y3 : IntKind.i64.wrap (k1 : Int) = (k1 : Int) := by rw [IntKind.wrap_i64]; omega
      have y5 : ¬ (k1 : Int) = 0 := by omega
      rw [← hk1e] at HA
      clear ha hk1e hk1
      go_enter Tryd.func27, Tryd.ntmps27
      go_wp2_with (go_at_call 33; refine (HF.out).mono ?_; rintro e w2 ⟨rfl, hB2⟩; have HW2 := hid' (And.intro (HW.out.1.below hB2) (own_below HW.out.2.1 hB2)); have d0 : w2.cell? ⟨g, o, none⟩ = some (.slice (some ⟨gb, 0, none⟩) bs.length c) := (by rw [HW2.out.1.cell, HW.out.2.2.2.1]); have d1 : w2.cell? ⟨g, o + 1, none⟩ = some (.int .i64 (totB bs : Nat)) := (by rw [HW2.out.1.cell, HW.out.2.2.2.2]); have f1 := HW2.out.1.frozen (o + 1); obtain ⟨gb', c', hve, -, -, -, d2, f2, -⟩ := own_cell HW2.out.2 HK.out; injection hve with hve _ hce; injection hve with hve; injection hve with hve; subst hve hce; simp only at d2)
      all_goals first | (exfalso; omega) | skip
      go_ret
      refine ⟨rfl, .slice (some ⟨gb, 0, none⟩) bs.length c, ⟨?_, ?_, ?_, ?_, HS.out, ?_, ?_, h8⟩, ?_, rfl⟩
      · rw [setIfInBounds_self HW.out.2.2.2.1, ← HT.out]
        exact (HW2.out.1.far (p := ⟨gb, p * 2 + 1, none⟩) hgg _).set _ _
      · rw [setIfInBounds_self HW.out.2.2.2.1, Array.getElem?_setIfInBounds, if_neg (by omega)]; exact HW.out.2.2.2.1
      · rw [Array.getElem?_setIfInBounds, if_pos rfl, if_pos (by rw [Array.size_setIfInBounds]; exact hsz1)]
      · rw [HA.out]
        have := own_set' (own_setB HW2.out.2 HK.out k1) (p := ⟨g, o + 1, none⟩) hne (.int .i64 (t1 : Int))
        rw [List.length_set]; exact this
      · rw [← HT.out]; exact HTB.out
      · simp; exact Nat.le_trans HW.out.2.2.1 hB2.size
      · refine (Mod.of_below hB2).then_ ((Mod.refl (fun k => k = g ∨ (Value.slice (some ⟨gb, 0, none⟩) bs.length c).ownBlock = some k) w2).setCell (p := ⟨gb, p * 2 + 1, none⟩) (fun _ => .inr rfl) _ |>.setCell (p := ⟨g, o + 1, none⟩) (fun _ => .inl rfl) _) (fun i _ h => h)
end Go.Proofs.YtckndjgdfhbgcaaDoor
