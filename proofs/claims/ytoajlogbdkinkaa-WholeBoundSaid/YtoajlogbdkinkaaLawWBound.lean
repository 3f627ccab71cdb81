
/- WholeBound, walked. No condition. -/
import Derived.Test.YtoajlogbdkinkaaWBoundPure
import Derived.Test.YtoajlogbdkinkaaSliceOwn
namespace Go.Proofs.Ytoajlogbdkinkaa
open Go.RowKit
set_option linter.unusedVariables false

set_option maxHeartbeats 1600000 in
theorem wholeBound (bound : Int) (A : Option Addr) (c : Nat) (l : List Int) (w : World) (hbo : (Lit.int .i64 bound).wf = true) (hr : Rd w A (l.map (.int .i64))) (hl : ∀ x ∈ l, (Lit.int .i64 x).wf = true) (hn : l.length ≤ maxLen) :
    Calls Try.prog 14 #[.int .i64 bound, .slice A l.length c] w fun e w' => e = .returned (.bool true) ∧ Below w.heap.size w w' := by
  have hb' := I64.of_wf hbo
  have hn' : l.length ≤ 9223372036854775807 := hn
  have HR := hid' hr
  have HL := hid' (fun x hx => I64.of_wf (hl x hx))
  clear hl hn hr hbo
  have D1 := hid' (show decide (clNow 0 false < 1) = true by decide)
  have D2 := hid' (show bAfter 5 1 = 3 by decide)
  go_enter Try.func14, Try.ntmps14
  go_wp2_with fail
  have hc := Blk.new_ w 45 #[.int .i64 0, .bool false]
  have hB := bel_alloc (bel_refl w) (.cells #[.int .i64 0, .bool false] 45)
  generalize w.alloc (.cells #[.int .i64 0, .bool false] 45) = w1 at hc hB ⊢
  refine (bounded_New 0 w1 (by unfold I64 at *; omega)).mono ?_
  rintro e w2 ⟨g, rfl, hg0, hbg, hB2⟩
  have hc2 := hc.below hB2
  have hB3 := bel_then hB hB2
  clear hB hB2 hc
  go_wp2_with fail
  refine (bounded_Bound g _ _ _ _ hbg).mono ?_
  rintro e w' ⟨rfl, rfl⟩
  go_wp2_with fail
  refine (clamp_RaiseB w.heap.size 0 false 1 _ hc2).mono ?_
  rintro e w3 ⟨rfl, hc3, hm3⟩
  rw [D1.out]
  have hB4 := bel_mod hB3 hm3 (by intro i hi; omega)
  clear hc2 hB3 hm3 hc3 hbg
  go_wp2_with fail
  refine (bounded_After 5 1 _ (by unfold I64 at *; omega) (by unfold I64 at *; omega)).mono ?_
  rintro e w' ⟨rfl, rfl⟩
  rw [D2.out]
  by_cases h1 : 100 < l.length
  · go_wp2
    all_goals (go_ret; exact ⟨rfl, hB4⟩)
  by_cases h2 : bound < 0
  · go_wp2
    all_goals (go_ret; exact ⟨rfl, hB4⟩)
  go_wp2_with fail
  refine (slices_CloneI A c l w3 (HR.out.below hB4) (by omega)).mono ?_
  rintro e w4 ⟨v, rfl, hown, hB5⟩
  go_wp2_with fail
  refine (slices_ReverseO _ v l w4 hown (by omega)).mono ?_
  rintro e w5 ⟨rfl, hown2, hm5⟩
  have hB6 : Below w.heap.size w w5 := bel_mod (bel_then hB4 hB5) hm5 (fun i hi e => by have := own_base' hown i e; have := hB4.size; omega)
  have hlo := own_lt' hown2
  have hba0 := own_base' hown2
  have hs4 := hB4.size
  clear hown hm5 hB5 hB4
  go_wp2_with fail
  refine (bounded_New bound w5 hb').mono ?_
  rintro e w6 ⟨ga, rfl, hga, hba, hB7⟩
  go_wp2_with fail
  refine (bounded_New bound w6 hb').mono ?_
  rintro e w7 ⟨gb, rfl, hgb, hbb, hB8⟩
  have hs7 := hB7.size
  have hs6 := hB6.size
  have hs8 := hB8.size
  have hlt6 : ga < w6.heap.size := by obtain ⟨_, _, _, _, hx, _⟩ := hba; exact hx.lt
  have hlt7 : gb < w7.heap.size := by obtain ⟨_, _, _, _, hx, _⟩ := hbb; exact hx.lt
  have hba7 : BGen w7 ga bound NEV NEV := hba.mod (S := fun _ => False) (Mod.of_below hB8) (fun h => h)
  have hown7 := own_below (own_below hown2 hB7) hB8
  have hB9 := bel_then (bel_then hB6 hB7) hB8
  obtain ⟨Av, cv, rfl, _, _, hrv⟩ := own_rd hown7
  have hAv : ∀ ad, Av = some ad → ad.block < w5.heap.size ∧ w.heap.size ≤ ad.block := fun ad e => by
    subst e
    have h1 := hlo ad.block rfl
    have h2 := hba0 ad.block rfl
    omega
  have hAl : ∀ ad, A = some ad → ∀ x, l[0]? = some x → ad.block < w.heap.size := fun ad e x hx => by
    subst e
    obtain ⟨ad', e', hc⟩ := HR.out 0 (.int .i64 x) (by rw [List.getElem?_map, hx]; rfl)
    injection e' with e'
    subst e'
    have := World.block_lt_of_cell? w _ hc
    simpa [Addr.add] using this
  have HAl := hid' hAl
  have HAv := hid' hAv
  have HR7 := hid' (HR.out.below hB9)
  have HV7 := hid' hrv
  have HB9 := hid' hB9
  have HA7 := hid' hba7
  have HB7 := hid' hbb
  clear hba hbb hba7 hB7 hB8 hB6 hrv hown2 hown7 hAl hAv hB9 hlo hba0 HR
  go_wp2
  go_loopw [10, 47] (fun v10 v47 wr => ∃ k : Nat, k ≤ l.length ∧ v47 = .int .i64 k ∧ Mod (fun i => i = ga ∨ i = gb) w7 wr ∧ BGen wr ga bound (nowOf (l.take k) bound) (mostOf (l.take k)) ∧ BGen wr gb bound (nowOf (l.reverse.take k) bound) (mostOf (l.reverse.take k)) ∧
    wr.ownsRow w7.heap.size 3 1 v10 k (((l.take k).map (bAfter · bound)).map (.int .i64))) (fun _ v47 _ => l.length - (intOf v47).toNat)
  case atStart => exact ⟨0, Nat.zero_le _, rfl, Mod.refl _ _, HA7.out, HB7.out, own_nil' _ _ _ _⟩
  case round =>
    obtain ⟨k, hk, rfl, hm, hba, hbb, hown⟩ := hrel
    have HO := hid' hown
    clear hown
    by_cases hlt : k < l.length
    · have hltr : k < l.reverse.length := by simpa using hlt
      have h0 : ∃ x, l[0]? = some x := ⟨l[0], List.getElem?_eq_getElem (by omega)⟩
      obtain ⟨x0, hx0⟩ := h0
      obtain ⟨ad, x, rfl, hx, hcx⟩ := Rd.at_ HR7.out hlt
      obtain ⟨av, y, rfl, hy, hcy⟩ := Rd.at_ HV7.out hltr
      have hadb := HAl.out ad rfl x0 hx0
      have havb := HAv.out av rfl
      have hxi := HL.out x (mem_of_get hx)
      have hyi := HL.out y (by have := mem_of_get hy; rwa [List.mem_reverse] at this)
      have hadk : (ad.add k).block = ad.block := by unfold Addr.add; split <;> rfl
      have havk : (av.add k).block = av.block := by unfold Addr.add; split <;> rfl
      have hcx := hm.cell hcx (by rw [hadk]; omega)
      have hcy := hm.cell hcy (by rw [havk]; omega)
      have hts := take_snoc' hx
      have htr := take_snoc' hy
      have HS := hid' (show max (nowOf (l.take k) bound) (bAfter (max (mostOf (l.take k)) x) bound) = nowOf (l.take (k + 1)) bound by rw [hts, nowOf_snoc])
      have HM := hid' (show max (mostOf (l.take k)) x = mostOf (l.take (k + 1)) by rw [hts, mostOf_snoc])
      have HS2 := hid' (show max (nowOf (l.reverse.take k) bound) (bAfter (max (mostOf (l.reverse.take k)) y) bound) = nowOf (l.reverse.take (k + 1)) bound by rw [htr, nowOf_snoc])
      have HM2 := hid' (show max (mostOf (l.reverse.take k)) y = mostOf (l.reverse.take (k + 1)) by rw [htr, mostOf_snoc])
      have HT := hid' (show (((l.take (k + 1)).map (bAfter · bound)).map (Value.int .i64)) = ((l.take k).map (bAfter · bound)).map (.int .i64) ++ [.int .i64 (bAfter x bound)] by rw [hts]; simp)
      clear hx hy hts htr hx0
      go_wp2_with fail
      refine (bounded_Seen ga bound _ _ _ x _ _ hba hxi).mono ?_
      rintro e w8 ⟨rfl, hba8, hm8⟩
      rw [HS.out, HM.out] at hba8
      have hcx8 := hm8.cell hcx (by rw [hadk]; omega)
      have hcy8 := hm8.cell hcy (by rw [havk]; omega)
      have hbb8 := hbb.mod hm8 (by omega)
      have HO8 := hid' (own_mod HO.out hm8 (fun i hi e => by have := own_base' HO.out i hi; omega))
      have hmm8 := hm.then_ hm8 (fun i _ e => .inl e)
      clear hm8 hba hbb hcx hcy hm HO
      go_wp2_with fail
      refine (bounded_Seen gb bound _ _ _ y _ _ hbb8 hyi).mono ?_
      rintro e w9 ⟨rfl, hbb9, hm9⟩
      rw [HS2.out, HM2.out] at hbb9
      have hcx9 := hm9.cell hcx8 (by rw [hadk]; omega)
      have hba9 := hba8.mod hm9 (by omega)
      have HO9 := hid' (own_mod HO8.out hm9 (fun i hi e => by have := own_base' HO8.out i hi; omega))
      have hmm9 := hmm8.then_ hm9 (fun i _ e => .inr e)
      clear hm9 hba8 hbb8 hcx8 hcy8 hmm8 HO8
      go_wp2_with fail
      refine (bounded_After x bound _ hxi hb').mono ?_
      rintro e w' ⟨rfl, rfl⟩
      have hsz := hmm9.size
      go_wp2_with (at_builtin; go_loud (refine ap_cells w7.heap.size rfl (.tmp 64) (.tmp 71) 26 3 (.int .i64 0) 1 8 rfl (by kernel_rfl) (by kernel_rfl) rfl (by decide) (by decide) _ k (((l.take k).map (bAfter · bound)).map (.int .i64)) [.int .i64 (bAfter x bound)] rfl rfl rfl (by intro u hu; rw [List.mem_singleton] at hu; subst hu; rfl) HO9.out hsz (by omega) ?_); intro v1 w10 hown hg hat)
      have hmm10 := hmm9.grown hg (fun i hi e => by have := own_base' HO9.out i e; omega)
      have hmg := Mod.of_grown hg
      have hba10 := hba9.mod hmg (fun e => by have := own_base' HO9.out ga e; omega)
      have hbb10 := hbb9.mod hmg (fun e => by have := own_base' HO9.out gb e; omega)
      have HO10 := hid' hown
      clear hown hg hat hmg hba9 hbb9 hmm9 HO9
      go_roundw
      case rel => exact ⟨k + 1, by omega, by go_num, hmm10, hba10, hbb10, by rw [HT.out]; exact HO10.out⟩
      case measure => simp [intOf]; omega
    · obtain rfl : k = l.length := by omega
      rw [List.take_of_length_le (Nat.le_refl _)] at hba
      rw [List.take_of_length_le (by simp), nowOf_rev, mostOf_rev] at hbb
      have hown := HO.out
      rw [List.take_of_length_le (Nat.le_refl _)] at hown
      have hmost := most_after l bound HL.out
      rw [← hmost] at hba hbb
      have hlast := clAll_last (l.map (bAfter · bound))
      have hyl : (l.map (bAfter · bound)).length = l.length := List.length_map ..
      have hlen := clAll_len (l.map (bAfter · bound))
      rw [hyl] at hlen
      have hyi : ∀ x ∈ l.map (bAfter · bound), I64 x := fun x hx => by obtain ⟨z, _, rfl⟩ := List.mem_map.1 hx; exact I64.bAfter _ _
      generalize l.map (bAfter · bound) = ys at *
      generalize mostOf ys = M at *
      have hBr := bel_mod HB9.out hm (fun i hi e => by omega)
      obtain ⟨A2, c2, rfl, _, _, hr2⟩ := own_rd hown
      have hcl := clamp_All A2 c2 ys wr hr2 hyi (by omega)
      rw [hyl] at hcl
      have HCL := hid' hcl
      clear hcl hown HO hr2 hyi hmost hm
      go_wp2_with fail
      refine HCL.out.mono ?_
      rintro e w8 ⟨v2, rfl, hown3, hB10⟩
      obtain ⟨A3, c3, rfl, _, _, hr3⟩ := own_rd hown3
      have hba8 := hba.mod (S := fun _ => False) (Mod.of_below hB10) (fun h => h)
      have hbb8 := hbb.mod (S := fun _ => False) (Mod.of_below hB10) (fun h => h)
      have hBe := bel_then hBr hB10
      clear hown3 HCL hba hbb hB10 hBr
      obtain ⟨N, hN⟩ : ∃ N, N = (clAll ys).length := ⟨_, rfl⟩
      have HLast := hid' hlast
      clear hlast
      by_cases h0 : clAll ys = []
      · have hM := HLast.out.1 h0
        rw [hM] at hba8 hbb8
        have hz : (clAll ys).length = 0 := by rw [h0]; rfl
        rw [hz]
        rw [show (NEV : Int) = -9223372036854775808 from rfl] at hba8 hbb8
        clear hz h0 hN hr3 HLast hM
        go_wp2_with (first
          | (go_at_call 46; refine (bounded_Now ga _ _ _ _ hba8).mono ?_; rintro e w' ⟨rfl, rfl⟩)
          | (go_at_call 46; refine (bounded_Now gb _ _ _ _ hbb8).mono ?_; rintro e w' ⟨rfl, rfl⟩))
        go_ret
        exact ⟨rfl, hBe⟩
      · have hpos : 0 < N := by rw [hN]; exact List.length_pos_iff.2 h0
        obtain ⟨n, hn1⟩ : ∃ n, N = n + 1 := ⟨N - 1, by omega⟩
        have hat := HLast.out.2 n (by omega)
        obtain ⟨ad, e', hc3⟩ := hr3 n (.int .i64 M) (by rw [List.getElem?_map, hat]; rfl)
        subst e'
        rw [← hN]
        have hsub : (N : Int) - 1 = (n : Int) := by omega
        have hnN : n < N := by omega
        have hNl : N ≤ 100 := by omega
        clear hN hn1 hat hr3 HLast h0 hlen
        go_wp2_with (first
          | (go_at_call 46; refine (bounded_Now ga _ _ _ _ hba8).mono ?_; rintro e w' ⟨rfl, rfl⟩)
          | (go_at_call 46; refine (bounded_Now gb _ _ _ _ hbb8).mono ?_; rintro e w' ⟨rfl, rfl⟩))
        go_ret
        exact ⟨by simp, hBe⟩
end Go.Proofs.Ytoajlogbdkinkaa
