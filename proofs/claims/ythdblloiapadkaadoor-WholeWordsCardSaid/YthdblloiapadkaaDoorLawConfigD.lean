
/- The laws of configurations: there and back, walked. No condition but the tables and variables of Go's own library. -/
import Derived.Test.YthdblloiapadkaaDoorConfigJ
import Derived.Test.YthdblloiapadkaaDoorLawConfigB
import Derived.Test.YthdblloiapadkaaDoorLawConfigC
namespace Go.Proofs.YthdblloiapadkaaDoor
set_option maxRecDepth 100000
set_option linter.unusedSimpArgs false
open Go.RowKit
set_option linter.unusedVariables false
set_option linter.unusedSimpArgs false

theorem cRuleQ (k b p n s : Int) (w : World) (h : rlI (k, b, p, n, s)) (hP : PowT w) : ∀ d os, Calls Tryd.prog 42 #[.agg #[.int .i64 k, .int .i64 b, .int .i64 p, .int .i64 n, .int .i64 s]] (Go.Sort.grow (redrawn w d) os) fun e w'' => e = .returned (.string (strOf (ruleL k b p n s))) ∧ ∃ p : Regrown, w'' = Go.Sort.grow (redrawn w p.d) p.os :=
  fun d os => Calls.regrown_of (config_Rule k b p n s _ h (hP.below (below_regrown w d os)))
theorem rRuleQ (k b p n s : Int) (w : World) (h : rlI (k, b, p, n, s)) : ∀ d os, Calls Tryd.prog 43 #[.agg #[.int .i64 k, .int .i64 b, .int .i64 p, .int .i64 n, .int .i64 s]] (Go.Sort.grow (redrawn w d) os) fun e w'' => e = .returned (.string (strOf (ruleL k b p n s))) ∧ ∃ p : Regrown, w'' = Go.Sort.grow (redrawn w p.d) p.os :=
  fun d os => Calls.regrown_of (ref19_Rule k b p n s _ h)
set_option maxHeartbeats 16000000 in
theorem configBack (cs : Array Value) (x : List Rl × Int × Int) (w : World) (hc : RCfg w cs.toList x) (hP : PowT w) (hE : ErV w) (hM : MaxT w) :
    Calls Tryd.prog 12 #[.agg cs] w fun e w' => e = .returned (.bool true) ∧ Below w.heap.size w w' := by
  obtain ⟨A, c, rfl, hr, hl, hI, ht, hd⟩ := hc.open_
  obtain ⟨l, t, d⟩ := x
  simp only at hr hl hI ht hd ⊢
  have HS := hid' (fun W (hB : Below w.heap.size w W) => speaks19 W (hP.below hB) (hE.below hB) (hM.below hB))
  have HR := hid' hr
  have HP := hid' hP
  have HE := hid' hE
  have HM := hid' hM
  have HI := hid' hI
  have HTD := hid' (And.intro ht hd)
  have HK0 := hid' (Blk.new_ w 45 #[.slice A l.length c, .int .i64 t, .int .i64 d])
  have HL0 := hid' (bel_alloc (bel_refl w) (.cells #[.slice A l.length c, .int .i64 t, .int .i64 d] 45))
  have hlm : l.length ≤ 9223372036854775807 := by unfold maxLen at hl; omega
  clear hc hr hP hE hM hI ht hd hl
  by_cases hbig : 100 < l.length
  · have hb1 : (100 : Int) < (l.length : Int) := by omega
    go_enter Tryd.func12, Tryd.ntmps12
    go_wp2_with fail
    refine (HS.out _ HL0.out).mono ?_
    rintro e w1 ⟨rfl, hB1⟩
    have c0 : w1.cell? ⟨w.heap.size, 0, none⟩ = some (.slice A l.length c) := by simpa using (HK0.out.below hB1).cell 0
    go_wp2
    go_ret
    exact ⟨rfl, bel_then HL0.out hB1⟩
  · have hb1 : (l.length : Int) ≤ 100 := by omega
    have hl100 : l.length ≤ 100 := by omega
    clear hbig
    go_enter Tryd.func12, Tryd.ntmps12
    go_wp2_with fail
    refine (HS.out _ HL0.out).mono ?_
    rintro e w1 ⟨rfl, hB1⟩
    have HK1 := hid' (HK0.out.below hB1)
    have HL1 := hid' (bel_then HL0.out hB1)
    have c0 : w1.cell? ⟨w.heap.size, 0, none⟩ = some (.slice A l.length c) := by simpa using HK1.out.cell 0
    clear hB1
    go_wp2
    clear c0
    go_loopw [3, 5, 19] (fun v3 v5 v19 wr => ∃ k : Nat, k ≤ l.length ∧ v19 = .int .i64 k ∧ v3 = .bool ((l.take k).all rlO) ∧ Blk wr w.heap.size 45 #[.slice A l.length c, .int .i64 t, .int .i64 d] ∧ Below w.heap.size w wr) (fun _ _ v19 _ => l.length - (intOf v19).toNat)
    case atStart => exact ⟨0, Nat.zero_le _, rfl, rfl, HK1.out, HL1.out⟩
    case round =>
      obtain ⟨k, hk, rfl, rfl, hK, hL⟩ := hrel
      have HK := hid' hK
      have HL := hid' hL
      by_cases hlt : k < l.length
      · have hlti : (k : Int) < (l.length : Int) := by omega
        obtain ⟨ad, r0, r1, r2, r3, r4, rfl, hx, c0, c1, c2, c3, c4⟩ := (HR.out.below hL).at5 hlt
        have hri := HI.out _ (List.mem_of_getElem? hx)
        have hall := all_take hx
        have HAL := hid' hall
        have hba := bel_alloc (bel_refl wr) (.cells #[.int .i64 r0, .int .i64 r1, .int .i64 r2, .int .i64 r3, .int .i64 r4] 54)
        have HJ := hid' (Blk.new_ wr 54 #[.int .i64 r0, .int .i64 r1, .int .i64 r2, .int .i64 r3, .int .i64 r4])
        have HLa := hid' (bel_then HL.out hba)
        have HKa := hid' (HK.out.below hba)
        have HON := hid' (fun W => ref19_Only r0 r1 r2 r3 r4 W)
        unfold ruleV at HON
        obtain ⟨ob, hob⟩ : ∃ ob, ob = rlO (r0, r1, r2, r3, r4) := ⟨_, rfl⟩
        rw [show onlyB r0 r1 r2 r3 r4 = ob from hob.symm] at HON
        rw [← hob] at HAL
        have hpa := HP.out.below HLa.out
        clear hK hL hx hba hall hob
        obtain ⟨al, hal⟩ : ∃ al, al = (l.take k).all rlO := ⟨_, rfl⟩
        rw [← hal] at HAL
        rw [← hal]
        clear hal
        go_wp2
        clear c0 c1 c2 c3 c4
        generalize hwa : wr.alloc (.cells #[.int .i64 r0, .int .i64 r1, .int .i64 r2, .int .i64 r3, .int .i64 r4] 54) = wa at *
        generalize hb5 : wr.heap.size = b5 at *
        have q0 := cell_regrown (show wa.cell? ⟨b5, 0, none⟩ = some (.int .i64 r0) by simpa using HJ.out.cell 0)
        have q1 := cell_regrown (show wa.cell? ⟨b5, 1, none⟩ = some (.int .i64 r1) by simpa using HJ.out.cell 1)
        have q2 := cell_regrown (show wa.cell? ⟨b5, 2, none⟩ = some (.int .i64 r2) by simpa using HJ.out.cell 2)
        have q3 := cell_regrown (show wa.cell? ⟨b5, 3, none⟩ = some (.int .i64 r3) by simpa using HJ.out.cell 3)
        have q4 := cell_regrown (show wa.cell? ⟨b5, 4, none⟩ = some (.int .i64 r4) by simpa using HJ.out.cell 4)
        have HC1 := hid' (cRuleQ r0 r1 r2 r3 r4 wa hri hpa)
        have HC2 := hid' (rRuleQ r0 r1 r2 r3 r4 wa hri)
        generalize strOf (ruleL r0 r1 r2 r3 r4) = sr at *
        clear hri hpa hwa hb5
        refine wp_region_quiet_below (by kernel_rfl) (by kernel_rfl) ?_
        repeat (quiet_step (first | with_reducible exact HC1.out _ _ | with_reducible exact HC2.out _ _))
        refine wpQuiet_nil ?_
        intro _ hw'
        obtain ⟨⟨dq, osq⟩, hw''⟩ := hw'
        subst hw''
        have hBq := below_regrown wa dq osq
        generalize Go.Sort.grow (redrawn wa dq) osq = wq at *
        clear q0 q1 q2 q3 q4
        have HKq := hid' (HKa.out.below hBq)
        have HLq := hid' (bel_then HLa.out hBq)
        have HJq := hid' (HJ.out.below hBq)
        have d0 : wq.cell? ⟨b5, 0, none⟩ = some (.int .i64 r0) := by simpa using HJq.out.cell 0
        have d1 : wq.cell? ⟨b5, 1, none⟩ = some (.int .i64 r1) := by simpa using HJq.out.cell 1
        have d2 : wq.cell? ⟨b5, 2, none⟩ = some (.int .i64 r2) := by simpa using HJq.out.cell 2
        have d3 : wq.cell? ⟨b5, 3, none⟩ = some (.int .i64 r3) := by simpa using HJq.out.cell 3
        have d4 : wq.cell? ⟨b5, 4, none⟩ = some (.int .i64 r4) := by simpa using HJq.out.cell 4
        clear hBq
        cases al with
        | true =>
          rw [Bool.true_and] at HAL
          go_wp2_with fail
          refine (HON.out _).mono ?_
          rintro e w3 ⟨rfl, hB3⟩
          go_wp2
          go_roundw
          case rel => exact ⟨k + 1, by omega, by go_num, by rw [HAL.out] <;> rfl, HKq.out.below hB3, bel_then HLq.out hB3⟩
          case measure => (simp only [intOf]; omega)
        | false =>
          rw [Bool.false_and] at HAL
          go_wp2
          go_roundw
          case rel => exact ⟨k + 1, by omega, by go_num, by rw [HAL.out] <;> rfl, HKq.out, HLq.out⟩
          case measure => (simp only [intOf]; omega)
      · obtain rfl : k = l.length := by omega
        rw [List.take_length]
        have c0 : wr.cell? ⟨w.heap.size, 0, none⟩ = some (.slice A l.length c) := by simpa using hK.cell 0
        have c1 : wr.cell? ⟨w.heap.size, 1, none⟩ = some (.int .i64 t) := by simpa using hK.cell 1
        have c2 : wr.cell? ⟨w.heap.size, 2, none⟩ = some (.int .i64 d) := by simpa using hK.cell 2
        have HPR := hid' (config_Print A c l t d wr (HR.out.below hL) (by omega) HI.out HTD.out.1 HTD.out.2 (HP.out.below hL))
        have HPQ := hid' (fun W (hB : Below w.heap.size w W) => ref19_Print A c l t d W (HR.out.below hB) (by omega) HI.out HTD.out.1 HTD.out.2)
        obtain ⟨s, hs⟩ : ∃ s, s = strOf (cfgL l t d) := ⟨_, rfl⟩
        have hsz : s.size ≤ 10000 := by
          have := cfgL_len HI.out HTD.out.1 HTD.out.2
          rw [hs]; show (cfgL l t d).length ≤ _; omega
        have hsb : bL s = cfgL l t d := by rw [hs]; exact bL_str _
        rw [← hs] at HPR HPQ
        have HSB := hid' hsb
        clear hK hL hs hsb
        go_wp2_with fail
        refine HPR.out.mono ?_
        rintro e w2 ⟨rfl, hB2⟩
        have HL2 := hid' (bel_then HL.out hB2)
        have HK2 := hid' (HK.out.below hB2)
        clear c0 c1 c2 hB2
        have c0 : w2.cell? ⟨w.heap.size, 0, none⟩ = some (.slice A l.length c) := by simpa using HK2.out.cell 0
        have c1 : w2.cell? ⟨w.heap.size, 1, none⟩ = some (.int .i64 t) := by simpa using HK2.out.cell 1
        have c2 : w2.cell? ⟨w.heap.size, 2, none⟩ = some (.int .i64 d) := by simpa using HK2.out.cell 2
        go_wp2_with fail
        refine (HPQ.out w2 HL2.out).mono ?_
        rintro e w3 ⟨rfl, hB3⟩
        have HL3 := hid' (bel_then HL2.out hB3)
        have HK3 := hid' (HK2.out.below hB3)
        clear c0 c1 c2 hB3
        cases hal : l.all rlO with
        | false =>
          go_wp2
          go_ret
          exact ⟨rfl, HL3.out⟩
        | true =>
          have hO : ∀ r ∈ l, rlO r = true := fun r hr => List.all_eq_true.1 hal r hr
          obtain ⟨H, T, hsp, hcall⟩ := splitW 10 s ⟨#[10]⟩ w3 rfl (by omega) (HM.out.below HL3.out)
          have HC := hid' hcall
          rw [HSB.out, spl_cfg HI.out hO] at hsp
          have hTl : T.length = l.length + 1 := by
            have := congrArg List.length hsp
            simp [lnsOf] at this; omega
          have hxs : (((H :: T).take T.length).map bL) = lnsOf l t d := by
            rw [List.map_take]
            show (bL H :: T.map bL).take T.length = _
            rw [hsp, hTl]
            have : (lnsOf l t d).length = l.length + 1 := by simp [lnsOf]
            rw [← this]; exact List.take_left
          obtain ⟨x, ys, hxy, hhead, hyok, hyr, hyl⟩ := lns_read HI.out hO HTD.out.1 HTD.out.2 hxs
          have hN : (x :: ys).length = T.length := by rw [List.length_cons, hyl, hTl]
          have hxz : ∀ y ∈ x :: ys, y.size ≤ 10000 := by
            intro y hy
            rw [← hxy] at hy
            have hm := List.mem_of_mem_take hy
            have hb : bL y ∈ spl 10 (bL s) := by
              rw [HSB.out, spl_cfg HI.out hO, ← hsp]
              exact List.mem_map_of_mem (f := bL) hm
            have := spl_mem_len (bL y) hb
            rw [bL_len, bL_len] at this; omega
          have hcut := cut_h (P := Tryd.prog) 50 9 1 Tryd.underlying50 (by kernel_rfl) (some ⟨w3.heap.size, 0, none⟩) (T.length + 1) (T.length + 1) T.length (by omega)
          have hrd := rd_takeS ((Blk.new_ w3 9 ((H :: T).map Value.string).toArray).rd rfl : Rd (w3.alloc (.cells ((H :: T).map Value.string).toArray 9)) (some ⟨w3.heap.size, 0, none⟩) ((H :: T).map Value.string)) T.length
          rw [hxy] at hrd
          have hba := bel_alloc (bel_refl w3) (.cells ((H :: T).map Value.string).toArray 9)
          have HL4 := hid' (bel_then HL3.out hba)
          have HK4 := hid' (HK3.out.below hba)
          have hPA := parse_ok (some ⟨w3.heap.size, 0, none⟩) (T.length + 1) x ys t d _ hrd (by rw [hN, hTl]; omega) (by rw [hN]; omega) hxz (HP.out.below HL4.out) (HE.out.below HL4.out) (HM.out.below HL4.out) hhead hyok
          rw [hN, hyr, hyl] at hPA
          have HPA := hid' hPA
          have hm1 : (T.length : Int) + 1 - 1 = (T.length : Int) := by omega
          clear hsp hcall hxs hxy hhead hyok hyr hyl hN hxz hrd hba hPA hO hal
          go_wp2_with fail
          refine HC.out.mono ?_
          rintro e w4 ⟨rfl, rfl⟩
          generalize hw4 : w3.alloc (.cells ((H :: T).map Value.string).toArray 9) = w4 at *
          generalize hb3 : w3.heap.size = b3 at *
          clear hw4 HC
          rw [hTl] at HPA
          go_wp2_with fail
          refine HPA.out.mono ?_
          rintro e w5 ⟨⟨A', c', rfl, hR5⟩, hB5⟩
          have hba := bel_alloc hB5 (.cells #[.slice A' l.length c', .int .i64 t, .int .i64 d] 45)
          have HL6 := hid' (bel_then HL4.out hba)
          have HK6 := hid' (HK4.out.below hba)
          have HR6 := hid' (hR5.below (bel_alloc (bel_refl w5) (.cells #[.slice A' l.length c', .int .i64 t, .int .i64 d] 45)))
          have hb5 : w.heap.size ≠ w5.heap.size := by have := (HK4.out.below hB5).lt; omega
          have c0 : (w5.alloc (.cells #[.slice A' l.length c', .int .i64 t, .int .i64 d] 45)).cell? ⟨w.heap.size, 0, none⟩ = some (.slice A l.length c) := by simpa using HK6.out.cell 0
          have c1 : (w5.alloc (.cells #[.slice A' l.length c', .int .i64 t, .int .i64 d] 45)).cell? ⟨w.heap.size, 1, none⟩ = some (.int .i64 t) := by simpa using HK6.out.cell 1
          have c2 : (w5.alloc (.cells #[.slice A' l.length c', .int .i64 t, .int .i64 d] 45)).cell? ⟨w.heap.size, 2, none⟩ = some (.int .i64 d) := by simpa using HK6.out.cell 2
          have HSM := hid' (ref19_Same A' A c' c l t d _ HR6.out (HR.out.below HL6.out) (by omega))
          clear hba hB5 hR5
          go_wp2_with fail
          refine HSM.out.mono ?_
          rintro e w7 ⟨rfl, hB7⟩
          go_wp2
          go_ret
          exact ⟨rfl, bel_then HL6.out hB7⟩
end Go.Proofs.YthdblloiapadkaaDoor
