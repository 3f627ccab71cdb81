
/- The last ones, in order: the law, walked. No condition. -/
import Derived.Test.YtcgonoepndlofaaLawWindow
import Derived.Test.YtcgonoepndlofaaCells
namespace Go.Proofs.Ytcgonoepndlofaa
set_option maxRecDepth 100000
set_option linter.unusedSimpArgs false
open Go.RowKit
set_option linter.unusedVariables false

theorem push_hist {n : Nat} {q : List Int} {bs : List (Int × Nat)} (h : HistOf bs q) (x : Int) (hn : 0 < n) :
    HistOf (addB x (if q.length < n then bs else remB (q.headD 0) bs)) (if q.length < n then q ++ [x] else q.tail ++ [x]) ∧ (¬ q.length < n → isB (q.headD 0) bs = true ∧ totB (remB (q.headD 0) bs) = q.tail.length) := by
  by_cases hlt : q.length < n
  · rw [if_pos hlt, if_pos hlt]
    exact ⟨h.add x, fun h => absurd hlt h⟩
  · rw [if_neg hlt, if_neg hlt]
    cases q with
    | nil => exact absurd hn hlt
    | cons y ys =>
      have h1 := h.rem y
      rw [List.erase_cons_head] at h1
      exact ⟨h1.add x, fun _ => ⟨by rw [show (y :: ys).headD 0 = y from rfl, h.is]; exact decide_eq_true (by simp), h1.tot⟩⟩
set_option maxHeartbeats 4000000 in
theorem wholeWindow (room : Int) (A : Option Addr) (c : Nat) (l : List Int) (w : World) (hro : (Lit.int .u8 room).wf = true) (hr : Rd w A (l.map (.int .i64))) (hl : ∀ x ∈ l, (Lit.int .i64 x).wf = true) (hn : l.length ≤ maxLen) :
    Calls Try.prog 10 #[.int .u8 room, .slice A l.length c] w fun e w' => e = .returned (.bool true) ∧ Below w.heap.size w w' := by
  have hn' : l.length ≤ 9223372036854775807 := hn
  obtain ⟨hro0, hro1⟩ := wf_u8 hro
  have HR := hid' hr
  clear hr hn hl hro
  obtain ⟨Q, hQ⟩ : ∃ Q : Nat, room % 30 = (Q : Int) := ⟨(room % 30).toNat, by omega⟩
  obtain ⟨n, hnq⟩ : ∃ n : Nat, n = 1 + Q := ⟨_, rfl⟩
  have z1 : (1 : Int) + (Q : Int) = (n : Int) := by omega
  have hnb : n ≤ 30 ∧ 1 ≤ n := by omega
  clear hnq
  go_enter Try.func10, Try.ntmps10
  go_wp2_with fail
  have hH0 : HistI (w.alloc (.cells #[.slice none 0 0, .int .i64 0] 26)) w.heap.size 0 26 #[.slice none 0 0, .int .i64 0] w.heap.size (.slice none 0 0) [] :=
    ⟨Blk.new_ _ _ _, rfl, rfl, own_nil' _ _ _ _, ⟨List.Pairwise.nil, fun b hb => by cases hb⟩, by decide, by simp, by decide⟩
  have hBB := bel_alloc (bel_refl w) (.cells #[.slice none 0 0, .int .i64 0] 26)
  refine (ringInt_New (n : Int) _ (by omega)).mono ?_
  rintro e w2 ⟨rg, rb, rfl, hg, hb, hR, hB2⟩
  rw [show (max (n : Int) 1).toNat = n by omega] at hR
  have HS := hid' (show SW w w2 w.heap.size (.slice none 0 0) [] rg rb n [] from ⟨bel_then hBB hB2, ⟨Nat.le_refl _, by simp at hg; omega, by simp at hb; omega⟩, ⟨_, hH0.below hB2⟩, hR, by omega⟩)
  clear hH0 hBB hg hb hR hB2
  go_wp2_with fail
  refine (HS.out.add 3 (by decide)).mono ?_
  rintro e w3 ⟨rfl, v3, hS3⟩
  have HS3 := hid' hS3
  clear hS3
  go_wp2_with fail
  refine (ringInt_Len rg rb n [] w3 HS3.out.2.2.2.1).mono ?_
  rintro e w4 ⟨rfl, rfl⟩
  go_wp2_with fail
  refine (HS3.out.remove 3).mono ?_
  rintro e w4 ⟨rfl, v4, hS4⟩
  rw [show isB 3 (addB 3 []) = true by decide, ] at *
  rw [show remB 3 (addB 3 []) = [] by decide] at hS4
  have HS4 := hid' hS4
  clear hS4
  by_cases h2 : 100 < l.length
  · go_wp2
    go_ret
    exact ⟨rfl, HS4.out.bel⟩
  go_wp2
  go_loopw [42] (fun v42 wr => ∃ (k : Nat) (v : Value) (bs : List (Int × Nat)) (q : List Int), k ≤ l.length ∧ v42 = .int .i64 k ∧ SW w wr w.heap.size v bs rg rb n q ∧ Hid (HistOf bs q ∧ q.length ≤ k)) (fun v42 _ => l.length - (intOf v42).toNat)
  case atStart => exact ⟨0, _, _, [], by omega, rfl, HS4.out, by exact ⟨HistOf.nil, Nat.le_refl _⟩⟩
  case round =>
    obtain ⟨k, v, bs, q, hk, rfl, hS, HQ⟩ := hrel
    by_cases hlt : k < l.length
    · obtain ⟨ad, x, rfl, hx, hcx⟩ := Rd.at_ (HR.out.below hS.bel) hlt
      have htq := HQ.out.1.tot
      have hqk := HQ.out.2
      obtain ⟨hpush, hisg⟩ := push_hist HQ.out.1 x (n := n) (by omega)
      have HS1 := hid' hS
      clear hS hx
      by_cases hfull : q.length < n
      · have HPU := hid' (HS1.out.push x)
        rw [if_pos hfull, if_pos hfull, decide_eq_false (by omega)] at HPU
        rw [if_pos hfull, if_pos hfull] at hpush
        have HHQ := hpush
        clear hpush hisg
        go_wp2_with (first
          | (go_at_call 37; refine (HPU.out).mono ?_; rintro e w5 ⟨rfl, hS5⟩)
          | (go_at_call 13; refine (hS5.add x (by omega)).mono ?_; rintro e w6 ⟨rfl, v6, hS6⟩))
        have hq2p0 : 0 < ((q ++ [x])).length := by simp
        have hq2b0 : ((q ++ [x])).length ≤ k + 1 := by simp; omega
        obtain ⟨q2, hq2⟩ : ∃ q2, q2 = (q ++ [x]) := ⟨_, rfl⟩
        rw [← hq2] at HHQ hS6 hq2p0 hq2b0
        have HQ2 := hid' (show HistOf (addB x bs) q2 ∧ q2.length ≤ k + 1 from ⟨HHQ, hq2b0⟩)
        have HHQ2 := hid' HHQ
        have hq2t := hid' HHQ.tot
        have hq2p := hid' hq2p0
        have hq2b : q2.length ≤ 100000 := by omega
        have HS6 := hid' hS6
        clear HHQ hS6 hq2 hq2p0 hq2b0
        go_wp2_with fail
        refine (HS6.out.all).mono ?_
        rintro e w7 ⟨u, rfl, hO7, hB7⟩
        have HO7 := hid' hO7
        have HB7 := hid' hB7
        clear hO7 hB7
        go_wp2_with fail
        refine (slices_SortO _ _ _ _ HO7.out hq2b).mono ?_
        rintro e w8 ⟨rfl, s, hp, hso, hO8, hM8⟩
        have hsl0 := hp.length_eq
        have HB8 := hid' (bel_mod HB7.out hM8 (fun i hi hk => by have := own_base' HO7.out i hk; omega))
        have HS8 := hid' (HS6.out.below HB8.out)
        obtain ⟨A8, c8, rfl, -, -, hr8⟩ := own_rd hO8
        have HR8 := hid' hr8
        have HP := hid' (And.intro hp hso)
        obtain ⟨⟨s0, hs0, hp0⟩, ⟨s1, hs1, hp1⟩⟩ := pc_sorted HHQ2.out hp hso hq2p.out
        have HPC := hid' (And.intro hp0 hp1)
        have HSS := hid' (And.intro hs0 hs1)
        clear hM8 hO8 hr8 hp hso hp0 hp1 hs0 hs1
        obtain ⟨N, hN⟩ : ∃ N, N = s.length := ⟨_, rfl⟩
        rw [← hN] at hsl0
        have hNt : totB (addB x bs) = N := by rw [hq2t.out, hsl0]
        have hNp : 0 < N := by rw [hsl0]; exact hq2p.out
        have HNN := hid' hN
        rw [← hN]
        have hNb : N ≤ 100000 := by omega
        clear hN hsl0 hq2b
        go_wp2_with (go_at_call 17; refine (HS8.out.len).mono ?_; rintro e w9 ⟨rfl, rfl⟩; rw [hNt])
        all_goals first | (exfalso; omega) | skip
        go_loopw [70] (fun v70 wr2 => ∃ i : Nat, i ≤ N ∧ v70 = .int .i64 i ∧ Below w8.heap.size w8 wr2) (fun v70 _ => N - (intOf v70).toNat)
        case atStart => exact ⟨0, by omega, rfl, bel_refl _⟩
        case round =>
          obtain ⟨i, hi, rfl, hBi⟩ := hrel
          by_cases hlt2 : i < N
          · obtain ⟨ad9, a, rfl, ha, hca⟩ := Rd.at_ (HR8.out.below hBi) (j := i) (by rw [← HNN.out]; exact hlt2)
            have HK := hid' (rk_sorted HHQ2.out HP.out.1 HP.out.2 ha)
            have HS9 := hid' (HS8.out.below hBi)
            clear ha
            go_wp2_with (go_at_call 14; refine (HS9.out.rank _ (by unfold I64; omega)).mono ?_; rintro e w10 ⟨rfl, hB10⟩; rw [HK.out])
            go_roundw
            case rel => exact ⟨i + 1, by omega, by go_num, bel_then hBi hB10⟩
            case measure => first | (simp [intOf]; done) | (simp [intOf]; omega)
          · have HS9 := hid' (HS8.out.below hBi)
            go_wp2_with fail
            refine (HS9.out.percent 0 (by decide) (by decide)).mono ?_
            rintro e w10 ⟨rfl, hB10⟩
            rw [HPC.out.1]
            have HS10 := hid' (HS9.out.below hB10)
            have HB10 := hid' (bel_then hBi hB10)
            go_wp2_with fail
            refine (HS10.out.percent 100 (by decide) (by decide)).mono ?_
            rintro e w11 ⟨rfl, hB11⟩
            rw [HPC.out.2]
            have HS11 := hid' (HS10.out.below hB11)
            have HB11 := hid' (bel_then HB10.out hB11)
            obtain ⟨ad9, y0, rfl, hy0, hc0⟩ := Rd.at_ (HR8.out.below HB11.out) (j := 0) (by rw [← HNN.out]; exact hNp)
            obtain ⟨ad10, y1, e10, hy1, hc1⟩ := Rd.at_ (HR8.out.below HB11.out) (j := s.length - 1) (by rw [← HNN.out]; omega)
            injection e10 with e10
            subst e10
            rw [HSS.out.1] at hy0
            injection hy0 with hy0
            subst hy0
            rw [HSS.out.2] at hy1
            injection hy1 with hy1
            subst hy1
            rw [← HNN.out] at hc1
            have hc0' : w11.cell? ad9 = some (.int .i64 s0) := by simpa [Addr.add] using hc0
            obtain ⟨N1, hN1⟩ : ∃ N1, N1 = N - 1 := ⟨_, rfl⟩
            rw [← hN1] at hc1
            have y1 : (N : Int) - 1 = (N1 : Int) := by omega
            have y2 : N1 < N := by omega
            have y3 : (0 : Int) < (N : Int) := by omega
            clear hN1
            go_wp2
            go_roundw
            case rel => exact ⟨k + 1, v6, addB x bs, q2, by omega, by go_num, HS11.out, HQ2.out⟩
            case measure => first | (simp [intOf]; done) | (simp [intOf]; omega)
      · have HPU := hid' (HS1.out.push x)
        rw [if_neg hfull, if_neg hfull, decide_eq_true (by omega)] at HPU
        rw [if_neg hfull, if_neg hfull] at hpush
        have HIS := hid' (hisg hfull).1
        have htr := (hisg hfull).2
        rw [List.length_tail] at htr
        have HHQ := hpush
        clear hpush hisg
        obtain ⟨hd, hhd⟩ : ∃ hd, hd = q.head?.getD 0 := ⟨_, rfl⟩
        have he : q.headD 0 = hd := by rw [hhd]; cases q <;> rfl
        (try rw [he] at HPU)
        (try rw [← hhd] at HPU)
        rw [he] at HIS HHQ htr
        clear hhd he
        go_wp2_with (first
          | (go_at_call 37; refine (HPU.out).mono ?_; rintro e w5 ⟨rfl, hS5⟩)
          | (go_at_call 16; refine (hS5.remove hd).mono ?_; rintro e w6 ⟨rfl, v5, hS5b⟩; rw [HIS.out])
          | (go_at_call 13; refine (hS5b.add x (by omega)).mono ?_; rintro e w6 ⟨rfl, v6, hS6⟩))
        have hq2p0 : 0 < ((q.tail ++ [x])).length := by simp
        have hq2b0 : ((q.tail ++ [x])).length ≤ k + 1 := by simp; omega
        obtain ⟨q2, hq2⟩ : ∃ q2, q2 = (q.tail ++ [x]) := ⟨_, rfl⟩
        rw [← hq2] at HHQ hS6 hq2p0 hq2b0
        have HQ2 := hid' (show HistOf (addB x (remB hd bs)) q2 ∧ q2.length ≤ k + 1 from ⟨HHQ, hq2b0⟩)
        have HHQ2 := hid' HHQ
        have hq2t := hid' HHQ.tot
        have hq2p := hid' hq2p0
        have hq2b : q2.length ≤ 100000 := by omega
        have HS6 := hid' hS6
        clear HHQ hS6 hq2 hq2p0 hq2b0
        go_wp2_with fail
        refine (HS6.out.all).mono ?_
        rintro e w7 ⟨u, rfl, hO7, hB7⟩
        have HO7 := hid' hO7
        have HB7 := hid' hB7
        clear hO7 hB7
        go_wp2_with fail
        refine (slices_SortO _ _ _ _ HO7.out hq2b).mono ?_
        rintro e w8 ⟨rfl, s, hp, hso, hO8, hM8⟩
        have hsl0 := hp.length_eq
        have HB8 := hid' (bel_mod HB7.out hM8 (fun i hi hk => by have := own_base' HO7.out i hk; omega))
        have HS8 := hid' (HS6.out.below HB8.out)
        obtain ⟨A8, c8, rfl, -, -, hr8⟩ := own_rd hO8
        have HR8 := hid' hr8
        have HP := hid' (And.intro hp hso)
        obtain ⟨⟨s0, hs0, hp0⟩, ⟨s1, hs1, hp1⟩⟩ := pc_sorted HHQ2.out hp hso hq2p.out
        have HPC := hid' (And.intro hp0 hp1)
        have HSS := hid' (And.intro hs0 hs1)
        clear hM8 hO8 hr8 hp hso hp0 hp1 hs0 hs1
        obtain ⟨N, hN⟩ : ∃ N, N = s.length := ⟨_, rfl⟩
        rw [← hN] at hsl0
        have hNt : totB (addB x (remB hd bs)) = N := by rw [hq2t.out, hsl0]
        have hNp : 0 < N := by rw [hsl0]; exact hq2p.out
        have HNN := hid' hN
        rw [← hN]
        have hNb : N ≤ 100000 := by omega
        clear hN hsl0 hq2b
        go_wp2_with (go_at_call 17; refine (HS8.out.len).mono ?_; rintro e w9 ⟨rfl, rfl⟩; rw [hNt])
        all_goals first | (exfalso; omega) | skip
        go_loopw [70] (fun v70 wr2 => ∃ i : Nat, i ≤ N ∧ v70 = .int .i64 i ∧ Below w8.heap.size w8 wr2) (fun v70 _ => N - (intOf v70).toNat)
        case atStart => exact ⟨0, by omega, rfl, bel_refl _⟩
        case round =>
          obtain ⟨i, hi, rfl, hBi⟩ := hrel
          by_cases hlt2 : i < N
          · obtain ⟨ad9, a, rfl, ha, hca⟩ := Rd.at_ (HR8.out.below hBi) (j := i) (by rw [← HNN.out]; exact hlt2)
            have HK := hid' (rk_sorted HHQ2.out HP.out.1 HP.out.2 ha)
            have HS9 := hid' (HS8.out.below hBi)
            clear ha
            go_wp2_with (go_at_call 14; refine (HS9.out.rank _ (by unfold I64; omega)).mono ?_; rintro e w10 ⟨rfl, hB10⟩; rw [HK.out])
            go_roundw
            case rel => exact ⟨i + 1, by omega, by go_num, bel_then hBi hB10⟩
            case measure => first | (simp [intOf]; done) | (simp [intOf]; omega)
          · have HS9 := hid' (HS8.out.below hBi)
            go_wp2_with fail
            refine (HS9.out.percent 0 (by decide) (by decide)).mono ?_
            rintro e w10 ⟨rfl, hB10⟩
            rw [HPC.out.1]
            have HS10 := hid' (HS9.out.below hB10)
            have HB10 := hid' (bel_then hBi hB10)
            go_wp2_with fail
            refine (HS10.out.percent 100 (by decide) (by decide)).mono ?_
            rintro e w11 ⟨rfl, hB11⟩
            rw [HPC.out.2]
            have HS11 := hid' (HS10.out.below hB11)
            have HB11 := hid' (bel_then HB10.out hB11)
            obtain ⟨ad9, y0, rfl, hy0, hc0⟩ := Rd.at_ (HR8.out.below HB11.out) (j := 0) (by rw [← HNN.out]; exact hNp)
            obtain ⟨ad10, y1, e10, hy1, hc1⟩ := Rd.at_ (HR8.out.below HB11.out) (j := s.length - 1) (by rw [← HNN.out]; omega)
            injection e10 with e10
            subst e10
            rw [HSS.out.1] at hy0
            injection hy0 with hy0
            subst hy0
            rw [HSS.out.2] at hy1
            injection hy1 with hy1
            subst hy1
            rw [← HNN.out] at hc1
            have hc0' : w11.cell? ad9 = some (.int .i64 s0) := by simpa [Addr.add] using hc0
            obtain ⟨N1, hN1⟩ : ∃ N1, N1 = N - 1 := ⟨_, rfl⟩
            rw [← hN1] at hc1
            have y1 : (N : Int) - 1 = (N1 : Int) := by omega
            have y2 : N1 < N := by omega
            have y3 : (0 : Int) < (N : Int) := by omega
            clear hN1
            go_wp2
            go_roundw
            case rel => exact ⟨k + 1, v6, addB x (remB hd bs), q2, by omega, by go_num, HS11.out, HQ2.out⟩
            case measure => first | (simp [intOf]; done) | (simp [intOf]; omega)
    · go_wp2
      go_ret
      exact ⟨rfl, hS.bel⟩
end Go.Proofs.Ytcgonoepndlofaa
