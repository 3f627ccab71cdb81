
/- Of any bytes, step by step, a cursor tells what the document says: the law, walked. -/
import Derived.Test.YtjdjpljjahnhjaaLawCursor
import Derived.Test.YtjdjpljjahnhjaaRefLog
import Derived.Test.YtjdjpljjahnhjaaLogSame
namespace Go.Proofs.Ytjdjpljjahnhjaa
set_option maxRecDepth 100000
set_option linter.unusedSimpArgs false
open Go.RowKit
set_option linter.unusedVariables false
set_option linter.unusedSimpArgs false

set_option maxHeartbeats 1000000 in
theorem cursor_AheadD (g : Nat) (s : ByteArray) (at_ cnt : Nat) (w : World) (h : CurI w g s at_ cnt) (hs : s.size ≤ 200000) :
    Calls Try.prog 38 #[.pointer (some ⟨g, 0, none⟩)] w fun e w' => e = .returned (.int .i64 (cSt s at_)) ∧ Dr w w' := by
  have hs' : s.size ≤ 9223372036854775807 := by omega
  have hle := h.2
  have c0 : w.cell? ⟨g, 0, none⟩ = some (.string s) := by simpa [curC] using h.1.cell 0
  have c1 : w.cell? ⟨g, 1, none⟩ = some (.int .i64 (at_ : Int)) := by simpa [curC] using h.1.cell 1
  have c7 : w.cell? ⟨g, 7, none⟩ = some (.int .i64 (cLook s at_).2.2) := by simpa [curC] using h.1.cell 7
  have hst : cSt s at_ = if (cLook s at_).2.2 ≠ 0 then 2 else if at_ = s.size then 1 else 0 := rfl
  generalize (cLook s at_).2.2 = er at *
  clear h
  by_cases he : er ≠ 0
  · rw [if_pos he] at hst
    rw [hst]
    have e1 : (er != 0) = true := by simpa using he
    clear he hst
    go_enter Try.func38, Try.ntmps38
    go_wp2
    go_ret
    exact ⟨rfl, Dr.refl _⟩
  rw [if_neg he] at hst
  have he : er = 0 := by omega
  subst he
  by_cases ha : at_ = s.size
  · rw [if_pos ha] at hst
    rw [hst]
    subst ha
    clear hst
    go_enter Try.func38, Try.ntmps38
    go_wp2
    go_region
    all_goals
      go_wp2
      go_ret
      exact ⟨rfl, Dr.stepd (Dr.refl _)⟩
  · rw [if_neg ha] at hst
    rw [hst]
    have e1 : ((at_ : Int) == (s.size : Int)) = false := by rw [beq_eq_false_iff_ne]; omega
    clear hst
    go_enter Try.func38, Try.ntmps38
    go_wp2
    go_region
    all_goals
      go_wp2
      go_ret
      exact ⟨rfl, Dr.stepd (Dr.refl _)⟩
set_option maxHeartbeats 4000000 in
theorem cursorGoes (s : ByteArray) (w : World) (hs : s.size ≤ maxLen) :
    Calls Try.prog 10 #[.string s] w fun e w' => e = .returned (.bool true) ∧ Below w.heap.size w w' := by
  have hs' : s.size ≤ 9223372036854775807 := hs
  clear hs
  by_cases hbig : 1000 < s.size
  · go_enter Try.func10, Try.ntmps10
    go_wp2_with (go_at_call 36; refine (speaks21 _).mono ?_; rintro e w1 ⟨rfl, hB1⟩)
    go_ret
    exact ⟨rfl, hB1⟩
  go_enter Try.func10, Try.ntmps10
  go_wp2_with (go_at_call 36; refine (speaks21 _).mono ?_; rintro e w1 ⟨rfl, hB1⟩)
  refine (cursor_New s _ (by omega)).mono ?_
  rintro e w2 ⟨c, rfl, hc0, hc1, hC, hB2⟩
  go_wp2_with fail
  refine (ref06_Parse s _ (by omega)).mono ?_
  rintro e w3 ⟨k, v, rfl, hend, hlen, hO, hB3⟩
  obtain ⟨A, cp, rfl, -, -, hr⟩ := own_rd hO
  have HA := hid' (fun (ad : Addr) (e : A = some ad) => (show c < ad.block from Nat.lt_of_lt_of_le hc1 (own_base' hO ad.block (by subst e; rfl))))
  have HC := hid' ((hC.below hB3).alloc (.cells #[.slice A k cp, .int .i64 ((pSt s k).2 : Int), .int .i64 (pErr s (pSt s k).2)] 55))
  have HL := hid' (bel_alloc (bel_then (bel_then hB1 hB2) hB3) (.cells #[.slice A k cp, .int .i64 ((pSt s k).2 : Int), .int .i64 (pErr s (pSt s k).2)] 55))
  have HW := hid' (Blk.new_ w3 55 #[.slice A k cp, .int .i64 ((pSt s k).2 : Int), .int .i64 (pErr s (pSt s k).2)])
  have HR := hid' (hr.below (bel_alloc (bel_refl w3) (.cells #[.slice A k cp, .int .i64 ((pSt s k).2 : Int), .int .i64 (pErr s (pSt s k).2)] 55)))
  have hcw : w.heap.size ≤ c := by have := hB1.size; omega
  have hck : c < w3.heap.size := (hC.below hB3).1.lt
  have HE := hid' hend
  have HN := hid' hlen
  clear hC hB1 hB2 hB3 hO hr hend hlen hc0 hc1
  go_wp2
  generalize hW0 : w3.alloc (.cells #[.slice A k cp, .int .i64 ((pSt s k).2 : Int), .int .i64 (pErr s (pSt s k).2)] 55) = W0 at *
  clear hW0
  go_loopw [5, 6] (fun v5 v6 wr => ∃ i : Nat, i ≤ k ∧ i ≤ (pSt s i).2 ∧ v5 = .int .i64 ((pSt s i).2 : Int) ∧ v6 = .int .i64 i ∧ (pSt s i).1.length = i ∧ CurI wr c s (pSt s i).2 i ∧ Mod (fun j => j = c) W0 wr) (fun _ v6 _ => k + 1 - (intOf v6).toNat)
  case atStart => exact ⟨0, Nat.zero_le _, Nat.zero_le _, rfl, rfl, rfl, HC.out, Mod.refl _ _⟩
  case round =>
    obtain ⟨i, hi, hiv, rfl, rfl, hil, hC, hM⟩ := hrel
    have hk3 := HW.out.mod hM (fun h => by omega)
    have hvi := pSt_le s (by omega) i
    have HM := hid' hM
    have HK3 := hid' hk3
    have hlw : w3.heap.size < wr.heap.size := hk3.lt
    have HIL := hid' hil
    by_cases hik : i = k
    · subst hik
      have hse : cLook s (pSt s i).2 = (if (pSt s i).2 < s.size then fGet (s.extract (pSt s i).2 s.size) else (zR0, 0, 0)) := rfl
      have her : (cLook s (pSt s i).2).2.2 = pErr s (pSt s i).2 := by
        rw [hse]; unfold pErr; split <;> rfl
      have hend2 := pErr_end hvi HE.out
      have hst : cSt s (pSt s i).2 = if pErr s (pSt s i).2 ≠ 0 then 2 else if (pSt s i).2 = s.size then 1 else 0 := by
        unfold cSt; rw [her]
      obtain ⟨V, hV⟩ : ∃ V, V = (pSt s i).2 := ⟨_, rfl⟩
      obtain ⟨er, hee⟩ : ∃ er, er = pErr s (pSt s i).2 := ⟨_, rfl⟩
      rw [← hee] at hk3 her hend2 hst
      rw [← hV] at hk3 hC her hvi hend2 hst
      have HV := hid' hV
      have HEE := hid' hee
      have HCE := hid' her
      have c0 : wr.cell? ⟨w3.heap.size, 0, none⟩ = some (.slice A i cp) := by simpa using hk3.cell 0
      have c1 : wr.cell? ⟨w3.heap.size, 1, none⟩ = some (.int .i64 (V : Int)) := by simpa using hk3.cell 1
      have c2 : wr.cell? ⟨w3.heap.size, 2, none⟩ = some (.int .i64 er) := by simpa using hk3.cell 2
      rw [← HV.out]
      clear hse her hM hk3 hV hee hil HK3
      rcases hend2 with ⟨he, hv⟩ | ⟨he, hv⟩
      · subst he
        have hst1 : cSt s V = 1 := by rw [hst]; simp [hv]
        have HS1 := hid' hst1
        have hne : cSt s V ≠ 0 := by omega
        have HNE := hid' hne
        have HC := hid' hC
        have HAa := hid' (fun W (hb : Below wr.heap.size wr W) => cursor_AheadD c s V i W (HC.out.below hb) (by omega))
        rw [hst1] at HAa
        clear hst hst1 hne hv hC
        go_wp2_with fail
        refine (HAa.out _ (bel_refl _)).mono ?_
        rintro e w4 ⟨rfl, hD4⟩
        have hB4 := hD4.below
        have HC4 := hid' (HC.out.below hB4)
        go_wp2_with (first
          | (go_at_call 39; refine (cursor_Err c s V i _ HC4.out).mono ?_; rintro e w' ⟨rfl, rfl⟩; rw [HCE.out])
          | (go_at_call 40; refine (cursor_At c s V i _ HC4.out).mono ?_; rintro e w' ⟨rfl, rfl⟩)
          | (go_at_call 41; refine (cursor_Count c s V i _ HC4.out).mono ?_; rintro e w' ⟨rfl, rfl⟩))
        refine (cursor_NextNo c s V i _ HC4.out (by omega) HNE.out).mono ?_
        rintro e w5 ⟨rfl, hB5⟩
        have hb5 := bel_alloc (bel_then hB4 hB5) (.cells #[.int .i64 0, .int .i64 0, .string ⟨#[]⟩] 37)
        have hbk := Blk.new_ w5 37 #[.int .i64 0, .int .i64 0, .string ⟨#[]⟩]
        have hlw5 : w3.heap.size < w5.heap.size := by have := (bel_then hB4 hB5).size; omega
        have HB6 := hid' hb5
        have HC6 := hid' (HC.out.below hb5)
        have d0 : (w5.alloc (.cells #[.int .i64 0, .int .i64 0, .string ⟨#[]⟩] 37)).cell? ⟨w3.heap.size, 0, none⟩ = some (.slice A i cp) := (hb5.cell (p := ⟨w3.heap.size, 0, none⟩) hlw).trans c0
        have d1 : (w5.alloc (.cells #[.int .i64 0, .int .i64 0, .string ⟨#[]⟩] 37)).cell? ⟨w3.heap.size, 1, none⟩ = some (.int .i64 (V : Int)) := (hb5.cell (p := ⟨w3.heap.size, 1, none⟩) hlw).trans c1
        go_wp2_with fail
        generalize w5.alloc (.cells #[.int .i64 0, .int .i64 0, .string ⟨#[]⟩] 37) = w6 at *
        generalize w5.heap.size = b5 at *
        have z0 : w6.cell? ⟨b5, 0, none⟩ = some (.int .i64 0) := by simpa using hbk.cell 0
        have z1 : w6.cell? ⟨b5, 1, none⟩ = some (.int .i64 0) := by simpa using hbk.cell 1
        have z2 : w6.cell? ⟨b5, 2, none⟩ = some (.string ⟨#[]⟩) := by simpa using hbk.cell 2
        have HAt := hid' (fun W (hd : Dr w6 W) => cursor_At c s V i W (HC6.out.below hd.below))
        have HCo := hid' (fun W (hd : Dr w6 W) => cursor_Count c s V i W (HC6.out.below hd.below))
        have HAh := hid' (fun W (hd : Dr w6 W) => cursor_AheadD c s V i W (HC6.out.below hd.below) (by omega))
        rw [HS1.out] at HAh
        clear hb5 hbk hB4 hB5 hD4
        go_wp2
        go_quiet ((first
          | (go_at_call 40; exact quiet_same (HAt.out _ (by repeat (first | exact Dr.refl _ | apply Dr.step | apply Dr.stepd))) (by repeat (first | exact Dr.refl _ | apply Dr.step | apply Dr.stepd)))
          | (go_at_call 41; exact quiet_same (HCo.out _ (by repeat (first | exact Dr.refl _ | apply Dr.step | apply Dr.stepd))) (by repeat (first | exact Dr.refl _ | apply Dr.step | apply Dr.stepd)))
          | (go_at_call 38; exact quiet_gen (HAh.out _ (by repeat (first | exact Dr.refl _ | apply Dr.step | apply Dr.stepd))) (by repeat (first | exact Dr.refl _ | apply Dr.step | apply Dr.stepd)))))
        all_goals
          go_wp2
          go_ret
          exact ⟨rfl, bel_drewN (bel_then (bel_mod HL.out HM.out (fun j hj h => by omega)) HB6.out) _⟩
      · have hst1 : cSt s V = 2 := by rw [hst]; simp [he]
        have HS1 := hid' hst1
        have hne : cSt s V ≠ 0 := by omega
        have HNE := hid' hne
        have HC := hid' hC
        have e1 : (er != 0) = true := by simpa using he
        have HAa := hid' (fun W (hb : Below wr.heap.size wr W) => cursor_AheadD c s V i W (HC.out.below hb) (by omega))
        rw [hst1] at HAa
        clear hst hst1 hne hv hC he
        go_wp2_with fail
        refine (HAa.out _ (bel_refl _)).mono ?_
        rintro e w4 ⟨rfl, hD4⟩
        have hB4 := hD4.below
        have HC4 := hid' (HC.out.below hB4)
        go_wp2_with (first
          | (go_at_call 39; refine (cursor_Err c s V i _ HC4.out).mono ?_; rintro e w' ⟨rfl, rfl⟩; rw [HCE.out])
          | (go_at_call 40; refine (cursor_At c s V i _ HC4.out).mono ?_; rintro e w' ⟨rfl, rfl⟩)
          | (go_at_call 41; refine (cursor_Count c s V i _ HC4.out).mono ?_; rintro e w' ⟨rfl, rfl⟩))
        refine (cursor_NextNo c s V i _ HC4.out (by omega) HNE.out).mono ?_
        rintro e w5 ⟨rfl, hB5⟩
        have hb5 := bel_alloc (bel_then hB4 hB5) (.cells #[.int .i64 0, .int .i64 0, .string ⟨#[]⟩] 37)
        have hbk := Blk.new_ w5 37 #[.int .i64 0, .int .i64 0, .string ⟨#[]⟩]
        have hlw5 : w3.heap.size < w5.heap.size := by have := (bel_then hB4 hB5).size; omega
        have HB6 := hid' hb5
        have HC6 := hid' (HC.out.below hb5)
        have d0 : (w5.alloc (.cells #[.int .i64 0, .int .i64 0, .string ⟨#[]⟩] 37)).cell? ⟨w3.heap.size, 0, none⟩ = some (.slice A i cp) := (hb5.cell (p := ⟨w3.heap.size, 0, none⟩) hlw).trans c0
        have d1 : (w5.alloc (.cells #[.int .i64 0, .int .i64 0, .string ⟨#[]⟩] 37)).cell? ⟨w3.heap.size, 1, none⟩ = some (.int .i64 (V : Int)) := (hb5.cell (p := ⟨w3.heap.size, 1, none⟩) hlw).trans c1
        go_wp2_with fail
        generalize w5.alloc (.cells #[.int .i64 0, .int .i64 0, .string ⟨#[]⟩] 37) = w6 at *
        generalize w5.heap.size = b5 at *
        have z0 : w6.cell? ⟨b5, 0, none⟩ = some (.int .i64 0) := by simpa using hbk.cell 0
        have z1 : w6.cell? ⟨b5, 1, none⟩ = some (.int .i64 0) := by simpa using hbk.cell 1
        have z2 : w6.cell? ⟨b5, 2, none⟩ = some (.string ⟨#[]⟩) := by simpa using hbk.cell 2
        have HAt := hid' (fun W (hd : Dr w6 W) => cursor_At c s V i W (HC6.out.below hd.below))
        have HCo := hid' (fun W (hd : Dr w6 W) => cursor_Count c s V i W (HC6.out.below hd.below))
        have HAh := hid' (fun W (hd : Dr w6 W) => cursor_AheadD c s V i W (HC6.out.below hd.below) (by omega))
        rw [HS1.out] at HAh
        clear hb5 hbk hB4 hB5 hD4
        go_wp2
        go_quiet ((first
          | (go_at_call 40; exact quiet_same (HAt.out _ (by repeat (first | exact Dr.refl _ | apply Dr.step | apply Dr.stepd))) (by repeat (first | exact Dr.refl _ | apply Dr.step | apply Dr.stepd)))
          | (go_at_call 41; exact quiet_same (HCo.out _ (by repeat (first | exact Dr.refl _ | apply Dr.step | apply Dr.stepd))) (by repeat (first | exact Dr.refl _ | apply Dr.step | apply Dr.stepd)))
          | (go_at_call 38; exact quiet_gen (HAh.out _ (by repeat (first | exact Dr.refl _ | apply Dr.step | apply Dr.stepd))) (by repeat (first | exact Dr.refl _ | apply Dr.step | apply Dr.stepd)))))
        all_goals
          go_wp2
          go_ret
          exact ⟨rfl, bel_drewN (bel_then (bel_mod HL.out HM.out (fun j hj h => by omega)) HB6.out) _⟩
    · have hlt : i < k := by omega
      obtain ⟨r, n, hq, hvs, hn0, hvn, hstep, hff, hfz, hchk, hI, hget⟩ := pSt_round (by omega) hlt hil HN.out
      obtain ⟨V, hV⟩ : ∃ V, V = (pSt s i).2 := ⟨_, rfl⟩
      have hcl : cLook s V = (r, (n : Int), 0) := by
        unfold cLook; rw [hV, if_pos hvs, hq]
      rw [← hV] at hC hvs hvn hstep hvi hiv
      have hst : cSt s V = 0 := by
        unfold cSt; rw [hcl]; simp; omega
      obtain ⟨m, hm⟩ : ∃ m, m = V + n := ⟨_, rfl⟩
      have i1 : (V : Int) + (n : Int) = (m : Int) := by omega
      rw [← hm] at hvn hstep
      rw [← hV]
      have HRR := hid' (rd_recS HR.out)
      have HGET := hid' hget
      have HST := hid' hstep
      have HS0 := hid' hst
      have HCL := hid' hcl
      have HC := hid' hC
      have hxs : r.2.2.size ≤ 200000 := by
        have h1 := fFull_size r
        have h2 := recBody_size r
        omega
      have HEN := hid' (fun W => ref05_Encode r W hI hxs)
      have HFZ := hid' hfz
      have HAa := hid' (fun W (hb : Below wr.heap.size wr W) => cursor_AheadD c s V i W (HC.out.below hb) (by omega))
      rw [hst] at HAa
      have him : i + 1 ≤ m := by omega
      have hik' : ((i : Int) == (k : Int)) = false := by rw [beq_eq_false_iff_ne]; omega
      have c0 : wr.cell? ⟨w3.heap.size, 0, none⟩ = some (.slice A k cp) := by simpa using HK3.out.cell 0
      have hnc : w3.heap.size ≠ c := by omega
      clear hst hstep hcl hq hget hC hM hk3 hil hV hm hff hfz hI hchk
      go_wp2_with fail
      refine (HAa.out _ (bel_refl _)).mono ?_
      rintro e w4 ⟨rfl, hD4⟩
      have hB4 := hD4.below
      have HC4 := hid' (HC.out.below hB4)
      have HER := hid' (show (cLook s V).2.2 = 0 by rw [HCL.out])
      go_wp2_with (first
        | (go_at_call 39; refine (cursor_Err c s V i _ HC4.out).mono ?_; rintro e w' ⟨rfl, rfl⟩; rw [HER.out])
        | (go_at_call 40; refine (cursor_At c s V i _ HC4.out).mono ?_; rintro e w' ⟨rfl, rfl⟩)
        | (go_at_call 41; refine (cursor_Count c s V i _ HC4.out).mono ?_; rintro e w' ⟨rfl, rfl⟩))
      refine (cursor_NextYes c s V i n r _ HC4.out (by omega) HS0.out HCL.out (by omega) (by omega)).mono ?_
      rintro e w5 ⟨rfl, hC5, hM5⟩
      obtain ⟨kd, tm, x⟩ := r
      have HEN2 := hid' (show ∀ W, Calls Try.prog 27 #[.agg #[.int .i64 kd, .int .i64 tm, .string x]] W _ from HEN.out)
      have hm5 := (Mod.of_below (S := fun j => j = c) hB4).trans (hM5.mono (fun _ _ h => h))
      have hm6 := hm5.alloc (.cells #[.int .i64 kd, .int .i64 tm, .string x] 37)
      have HC6 := hid' (hC5.alloc (.cells #[.int .i64 kd, .int .i64 tm, .string x] 37))
      have HM6 := hid' (HM.out.trans hm6)
      have HK6 := hid' (HK3.out.mod hm6 hnc)
      have hbk := Blk.new_ w5 37 #[.int .i64 kd, .int .i64 tm, .string x]
      have hlw5 : w3.heap.size < w5.heap.size := by have := hm5.size; omega
      have d0 : (w5.alloc (.cells #[.int .i64 kd, .int .i64 tm, .string x] 37)).cell? ⟨w3.heap.size, 0, none⟩ = some (.slice A k cp) := by simpa using HK6.out.cell 0
      go_wp2_with fail
      generalize w5.alloc (.cells #[.int .i64 kd, .int .i64 tm, .string x] 37) = w6 at *
      generalize w5.heap.size = b5 at *
      have z0 : w6.cell? ⟨b5, 0, none⟩ = some (.int .i64 kd) := by simpa using hbk.cell 0
      have z1 : w6.cell? ⟨b5, 1, none⟩ = some (.int .i64 tm) := by simpa using hbk.cell 1
      have z2 : w6.cell? ⟨b5, 2, none⟩ = some (.string x) := by simpa using hbk.cell 2
      obtain ⟨ad, rfl, a0, a1, a2⟩ := (HRR.out.mod HM6.out (fun ad' e h => by have := HA.out ad' e; omega)).rec HGET.out
      clear hbk hB4 hD4 hm5 hm6 hC5 hM5
      go_wp2
      go_quiet (fail)
      all_goals
        go_wp2_with (go_at_call 27; refine (HEN2.out _).mono ?_; rintro e w7 ⟨rfl, hB7⟩; have hFz : (fFull (kd, tm, x)).size = n := HFZ.out)
        go_roundw
        case rel => exact ⟨i + 1, by omega, by rw [HST.out]; exact him, by rw [HST.out] <;> first | rfl | go_num, by go_num, by rw [HST.out]; simp [HIL.out], by rw [HST.out]; show CurI w7 c s m (i + 1); rw [show m = V + n by omega]; exact (HC6.out.below (bel_drewN (bel_refl _) _)).below hB7, (HM6.out.drewN _).trans (Mod.of_below hB7)⟩
        case measure => first | (simp [intOf]; done) | (simp [intOf]; omega)
end Go.Proofs.Ytjdjpljjahnhjaa
