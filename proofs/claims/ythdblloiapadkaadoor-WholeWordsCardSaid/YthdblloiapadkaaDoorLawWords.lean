
/- In words: configurations and choices are themselves again, walked. No condition but the tables and variables of Go's own library. -/
import Derived.Test.YthdblloiapadkaaDoorWordsPure
import Derived.Test.YthdblloiapadkaaDoorLawConfigD
import Derived.Test.YthdblloiapadkaaDoorLawChoiceC
namespace Go.Proofs.YthdblloiapadkaaDoor
set_option maxRecDepth 100000
set_option linter.unusedSimpArgs false
open Go.RowKit
set_option linter.unusedVariables false
set_option linter.unusedSimpArgs false

theorem line_tick3 : lineS true 3 = ⟨#[116, 105, 99, 107, 32, 51]⟩ := by
  unfold lineS lineL
  rw [if_pos rfl, show (3 : Int) = ((3 : Nat) : Int) from rfl, itoa_pos_small (by decide)]; rfl
set_option maxHeartbeats 16000000 in
theorem wholeWords (cs : Array Value) (x : List Rl × Int × Int) (A2 : Option Addr) (c2 : Nat) (cl : List (Bool × Int)) (w : World) (hc : RCfg w cs.toList x) (hr2 : rowCh w A2 cl) (hl2 : cl.length ≤ maxLen) (hP : PowT w) (hE : ErV w) (hM : MaxT w) :
    Calls Tryd.prog 14 #[.agg cs, .slice A2 cl.length c2] w fun e w' => e = .returned (.bool true) ∧ Below w.heap.size w w' := by
  obtain ⟨A, c, rfl, hr, hl, hI, ht, hd⟩ := hc.open_
  obtain ⟨l, t, d⟩ := x
  simp only at hr hl hI ht hd ⊢
  have HR := hid' hr
  have HR2 := hid' hr2.rds
  have HCI := hid' hr2.i64
  have HP := hid' hP
  have HE := hid' hE
  have HM := hid' hM
  have HI := hid' hI
  have HTD := hid' (And.intro ht hd)
  have HK0 := hid' (Blk.new_ w 45 #[.slice A l.length c, .int .i64 t, .int .i64 d])
  have HL0 := hid' (bel_alloc (bel_refl w) (.cells #[.slice A l.length c, .int .i64 t, .int .i64 d] 45))
  have hlm : l.length ≤ 9223372036854775807 := by unfold maxLen at hl; omega
  have hlm2 : cl.length ≤ 9223372036854775807 := by unfold maxLen at hl2; omega
  have HZ := hid' (fun W => config_Check none 0 [] 0 0 W (fun j x h => by simp at h) (by decide))
  rw [show cfgC [] 0 0 = 6 from rfl] at HZ
  have HLN := hid' (fun (t : Bool) (n : Int) (hn : I64 n) (W : World) (hB : Below w.heap.size w W) => choice_Line t n W hn (hP.below hB))
  have HT3 := hid' (fun (W : World) (hB : Below w.heap.size w W) => choice_Line true 3 W (by unfold I64; decide) (hP.below hB))
  rw [line_tick3] at HT3
  clear hc hr hP hE hM hI ht hd hl hr2 hl2
  go_enter Tryd.func14, Tryd.ntmps14
  go_wp2_with fail
  refine (HZ.out _).mono ?_
  rintro e w1 ⟨rfl, hB1⟩
  have HL1 := hid' (bel_then HL0.out hB1)
  have HK1 := hid' (HK0.out.below hB1)
  clear hB1
  go_wp2_with fail
  refine (choice_Tick 3 w1).mono ?_
  rintro e w2 ⟨rfl, hB2⟩
  have HL2 := hid' (bel_then HL1.out hB2)
  have HK2 := hid' (HK1.out.below hB2)
  clear hB2
  go_wp2_with fail
  refine (HT3.out w2 HL2.out).mono ?_
  rintro e w3 ⟨rfl, hB3⟩
  have HL3 := hid' (bel_then HL2.out hB3)
  have HK3 := hid' (HK2.out.below hB3)
  have c0 : w3.cell? ⟨w.heap.size, 0, none⟩ = some (.slice A l.length c) := by simpa using HK3.out.cell 0
  clear hB3
  by_cases hb1 : 50 < l.length
  · have hb1i : (50 : Int) < (l.length : Int) := by omega
    go_wp2
    go_ret
    exact ⟨rfl, HL3.out⟩
  have hb1i : (l.length : Int) ≤ 50 := by omega
  by_cases hb2 : 100 < cl.length
  · have hb2i : (100 : Int) < (cl.length : Int) := by omega
    go_wp2
    go_ret
    exact ⟨rfl, HL3.out⟩
  have hb2i : (cl.length : Int) ≤ 100 := by omega
  have hl50 : l.length ≤ 50 := by omega
  have hl100 : cl.length ≤ 100 := by omega
  clear hb1 hb2
  go_wp2
  clear c0
  go_loopw [6, 41] (fun v6 v41 wr => ∃ k : Nat, k ≤ l.length ∧ v41 = .int .i64 k ∧ (∀ r ∈ l.take k, rlO r = true) ∧ Blk wr w.heap.size 45 #[.slice A l.length c, .int .i64 t, .int .i64 d] ∧ Below w.heap.size w wr) (fun _ v41 _ => l.length - (intOf v41).toNat)
  case atStart => exact ⟨0, Nat.zero_le _, rfl, fun r hr => by simp at hr, HK3.out, HL3.out⟩
  case round =>
    obtain ⟨k, hk, rfl, hO, hK, hL⟩ := hrel
    have HO := hid' hO
    have HK := hid' hK
    have HL := hid' hL
    by_cases hlt : k < l.length
    · have hlti : (k : Int) < (l.length : Int) := by omega
      obtain ⟨ad, r0, r1, r2, r3, r4, rfl, hx, c0, c1, c2', c3, c4⟩ := (HR.out.below hL).at5 hlt
      have HX := hid' hx
      have hba := bel_alloc (bel_refl wr) (.cells #[.int .i64 r0, .int .i64 r1, .int .i64 r2, .int .i64 r3, .int .i64 r4] 54)
      have HLa := hid' (bel_then HL.out hba)
      have HKa := hid' (HK.out.below hba)
      have HON := hid' (fun W => ref19_Only r0 r1 r2 r3 r4 W)
      unfold ruleV at HON
      obtain ⟨ob, hob⟩ : ∃ ob, ob = rlO (r0, r1, r2, r3, r4) := ⟨_, rfl⟩
      rw [show onlyB r0 r1 r2 r3 r4 = ob from hob.symm] at HON
      have HOB := hid' hob
      clear hO hK hL hx hba hob
      cases ob with
      | true =>
        go_wp2_with fail
        refine (HON.out _).mono ?_
        rintro e w4 ⟨rfl, hB4⟩
        go_wp2
        go_roundw
        case rel => exact ⟨k + 1, by omega, by go_num, fun r hr => by
          rw [List.take_add_one, HX.out] at hr
          rcases List.mem_append.1 hr with h | h
          · exact HO.out r h
          · simp at h; subst h; exact HOB.out.symm, HKa.out.below hB4, bel_then HLa.out hB4⟩
        case measure => (simp only [intOf]; omega)
      | false =>
        go_wp2_with fail
        refine (HON.out _).mono ?_
        rintro e w4 ⟨rfl, hB4⟩
        go_wp2
        go_ret
        exact ⟨rfl, bel_then HLa.out hB4⟩
    · obtain rfl : k = l.length := by omega
      rw [List.take_length] at hO
      have c0 : wr.cell? ⟨w.heap.size, 0, none⟩ = some (.slice A l.length c) := by simpa using hK.cell 0
      have c1 : wr.cell? ⟨w.heap.size, 1, none⟩ = some (.int .i64 t) := by simpa using hK.cell 1
      have c2' : wr.cell? ⟨w.heap.size, 2, none⟩ = some (.int .i64 d) := by simpa using hK.cell 2
      have HPR := hid' (config_Print A c l t d wr (HR.out.below hL) (by omega) HI.out HTD.out.1 HTD.out.2 (HP.out.below hL))
      have hsz := cfgL_len HI.out HTD.out.1 HTD.out.2
      obtain ⟨s1, hs1, hs2⟩ := trim_cfg (t := t) (d := d) HI.out hO
      have HTR := hid' (fun W => Tryd.strings_TrimSuffix (strOf (cfgL l t d)) ⟨#[10]⟩ W (by show (cfgL l t d).length ≤ _; omega))
      have htr : Lib.trimSuffix (strOf (cfgL l t d)).data.toList (⟨#[10]⟩ : ByteArray).data.toList = s1 := by
        show Lib.trimSuffix (cfgL l t d) [10] = s1
        rw [hs1]; exact trim_suffix s1
      rw [htr] at HTR
      obtain ⟨s, hs⟩ : ∃ s, s = strOf s1 := ⟨_, rfl⟩
      have hs' : (⟨s1.toArray⟩ : ByteArray) = s := hs.symm
      rw [hs'] at HTR
      have hsb : bL s = s1 := by rw [hs]; exact bL_str _
      have hss : s.size ≤ 10000 := by
        have := congrArg List.length hs1
        rw [List.length_append] at this
        have h2 : s.size = s1.length := by rw [← hsb, bL_len]
        simp at this; omega
      have hnr := lns_noRead (t := t) (d := d) HI.out hO
      generalize strOf (cfgL l t d) = S at *
      have HSB := hid' hsb
      have HS2 := hid' hs2
      have HNR := hid' hnr
      have HO' := hid' hO
      clear hK hL hsz hs1 hs2 htr hs hs' hsb hnr hO HO
      go_wp2_with fail
      refine HPR.out.mono ?_
      rintro e w4 ⟨rfl, hB4⟩
      have HL4 := hid' (bel_then HL.out hB4)
      have HK4 := hid' (HK.out.below hB4)
      clear hB4 c0 c1 c2'
      go_wp2_with fail
      refine (HTR.out w4).mono ?_
      rintro e w5 ⟨rfl, rfl⟩
      obtain ⟨H, T, hsp, hcall⟩ := splitW 10 s ⟨#[10]⟩ w5 rfl (by omega) (HM.out.below HL4.out)
      have HC := hid' hcall
      rw [HSB.out, HS2.out] at hsp
      have hTl : T.length = l.length := by
        have := congrArg List.length hsp
        simp [lnsOf] at this; omega
      have hxs : ((H :: T).map bL) = lnsOf l t d := hsp
      obtain ⟨x, ys, hxy, hhead, hyok, hyr, hyl⟩ := lns_read HI.out HO'.out HTD.out.1 HTD.out.2 hxs
      have hH : H = x := by injection hxy
      have hTT : T = ys := by injection hxy
      subst hH hTT
      have hxz : ∀ y ∈ H :: T, y.size ≤ 10000 := by
        intro y hy
        have hb : bL y ∈ spl 10 (bL s) := by
          rw [HSB.out, HS2.out, ← hsp]
          exact List.mem_map_of_mem (f := bL) hy
        have := spl_mem_len (bL y) hb
        rw [bL_len, bL_len] at this; omega
      have hnrl : ∀ y ∈ H :: T, readP (bL y) = none := fun y hy => HNR.out _ (by rw [← hsp]; exact List.mem_map_of_mem (f := bL) hy)
      have hrd : Rd (w5.alloc (.cells ((H :: T).map Value.string).toArray 9)) (some ⟨w5.heap.size, 0, none⟩) ((H :: T).map Value.string) := (Blk.new_ w5 9 ((H :: T).map Value.string).toArray).rd rfl
      have hba := bel_alloc (bel_refl w5) (.cells ((H :: T).map Value.string).toArray 9)
      have HL5 := hid' (bel_then HL4.out hba)
      have HK5 := hid' (HK4.out.below hba)
      have HRD := hid' hrd
      have hPA := parse_ok (some ⟨w5.heap.size, 0, none⟩) (T.length + 1) H T t d _ hrd (by rw [List.length_cons]; omega) (by rw [List.length_cons]; omega) hxz (HP.out.below HL5.out) (HE.out.below HL5.out) (HM.out.below HL5.out) hhead hyok
      rw [hyr, List.length_cons, hTl] at hPA
      have HPA := hid' hPA
      have HHD := hid' hhead
      have HXZ := hid' hxz
      have HNL := hid' hnrl
      clear hsp hcall hxs hxy hhead hyok hyr hyl hxz hrd hba hPA hnrl
      go_wp2_with fail
      refine HC.out.mono ?_
      rintro e w6 ⟨rfl, rfl⟩
      generalize hw6 : w5.alloc (.cells ((H :: T).map Value.string).toArray 9) = w6 at *
      generalize hb7 : w5.heap.size = b7 at *
      rw [hTl]
      clear hw6 HC
      go_wp2_with fail
      refine HPA.out.mono ?_
      rintro e w7 ⟨⟨A', c', rfl, hR7⟩, hB7⟩
      have hba := bel_alloc hB7 (.cells #[.slice A' l.length c', .int .i64 t, .int .i64 d] 45)
      have HL8 := hid' (bel_then HL5.out hba)
      have HK8 := hid' (HK5.out.below hba)
      have HRD8 := hid' (HRD.out.below hba)
      have HR8 := hid' (hR7.below (bel_alloc (bel_refl w7) (.cells #[.slice A' l.length c', .int .i64 t, .int .i64 d] 45)))
      have hb8 : w.heap.size ≠ w7.heap.size := by have := (HK5.out.below hB7).lt; omega
      have c0 : (w7.alloc (.cells #[.slice A' l.length c', .int .i64 t, .int .i64 d] 45)).cell? ⟨w.heap.size, 0, none⟩ = some (.slice A l.length c) := by simpa using HK8.out.cell 0
      have c1 : (w7.alloc (.cells #[.slice A' l.length c', .int .i64 t, .int .i64 d] 45)).cell? ⟨w.heap.size, 1, none⟩ = some (.int .i64 t) := by simpa using HK8.out.cell 1
      have c2' : (w7.alloc (.cells #[.slice A' l.length c', .int .i64 t, .int .i64 d] 45)).cell? ⟨w.heap.size, 2, none⟩ = some (.int .i64 d) := by simpa using HK8.out.cell 2
      have HSM := hid' (ref19_Same A' A c' c l t d _ HR8.out (HR.out.below HL8.out) (by omega))
      clear hba hB7 hR7
      go_wp2_with fail
      refine HSM.out.mono ?_
      rintro e w9 ⟨rfl, hB9⟩
      have HL9 := hid' (bel_then HL8.out hB9)
      have HRD9 := hid' (HRD8.out.below hB9)
      have e0 : w9.cell? ⟨w.heap.size, 0, none⟩ = some (.slice A l.length c) := by simpa using (HK8.out.below hB9).cell 0
      have hll1 : ((l.length : Int) + 1 != (l.length : Int) + 1) = false := by simp
      clear hB9 c0 c1 c2' hb8
      have HRS := hid' (fun (y : ByteArray) (hy : y ∈ H :: T) (W : World) (hB : Below w.heap.size w W) => (by
        have h := choice_Read y W (by have := HXZ.out y hy; omega) (HP.out.below hB) (HE.out.below hB) (HM.out.below hB)
        rw [HNL.out y hy] at h
        exact h : Calls Tryd.prog 25 #[.string y] W fun e w' => e = .returned (.tuple #[.agg #[.bool false, .int .i64 0], .bool false]) ∧ Below W.heap.size W w'))
      have hHTl : (H :: T).length = l.length + 1 := by rw [List.length_cons, hTl]
      go_wp2
      go_loopw [11, 12, 13, 77] (fun v11 v12 v13 v77 wr => ∃ k : Nat, k ≤ l.length + 1 ∧ v77 = .int .i64 k ∧ Rd wr (some ⟨b7, 0, none⟩) ((H :: T).map Value.string) ∧ Below w.heap.size w wr) (fun _ _ _ v77 _ => l.length + 1 - (intOf v77).toNat)
      case atStart => exact ⟨0, Nat.zero_le _, rfl, HRD9.out, HL9.out⟩
      case round =>
        obtain ⟨k, hk, rfl, hR, hL⟩ := hrel
        have HRR := hid' hR
        have HL := hid' hL
        by_cases hlt : k < l.length + 1
        · have hlti : (k : Int) < (l.length : Int) + 1 := by omega
          obtain ⟨ad, y, hAd, hy, hcell⟩ := hR.at_ (j := k) (by omega)
          injection hAd with hAd
          subst hAd
          have hcell2 : wr.cell? ⟨b7, k, none⟩ = some (.string y) := by
            have h := hcell
            rcases Nat.eq_zero_or_pos k with rfl | hk0
            · exact h
            · unfold Addr.add at h
              rw [if_neg (by omega)] at h
              simpa using h
          have HRY := hid' (HRS.out y (List.mem_of_getElem? hy) wr hL)
          clear hR hL hy
          go_wp2_with fail
          refine HRY.out.mono ?_
          rintro e w10 ⟨rfl, hB10⟩
          have hbx := bel_alloc hB10 (.cells #[.bool false, .int .i64 0] 32)
          have HL10 := hid' (bel_then HL.out hbx)
          have HR10 := hid' (HRR.out.below hbx)
          clear hB10 hbx
          go_wp2
          go_roundw
          case rel => exact ⟨k + 1, by omega, by go_num, HR10.out, HL10.out⟩
          case measure => (simp only [intOf]; omega)
        · obtain rfl : k = l.length + 1 := by omega
          clear hR hL
          have hpb : ∀ (t2 : Bool) (n : Int), I64 n → parseBad [H, lineS t2 n] = 2 := fun t2 n hn => by
            show (match headP (bL H) with | none => 1 | some _ => match badIdx [lineS t2 n] with | some k => k + 2 | none => 0) = 2
            rw [HHD.out]
            have : badIdx [lineS t2 n] = some 0 := by
              unfold badIdx rokP
              rw [show bL (lineS t2 n) = lineL t2 n from bL_str _, line_noRule t2 hn]; rfl
            rw [this]
          have HPB := hid' (fun (t2 : Bool) (n : Int) (hn : I64 n) (W : World) (hB : Below w.heap.size w W) => (by
            have hbb := bel_alloc hB (.cells #[.string H, .string (lineS t2 n)] 9)
            have h := parse_bad (some ⟨W.heap.size, 0, none⟩) 2 [H, lineS t2 n] (W.alloc (.cells #[.string H, .string (lineS t2 n)] 9)) ((Blk.new_ W 9 #[.string H, .string (lineS t2 n)]).rd rfl) (by simp) (by simp) (by
              intro y hy
              simp at hy
              rcases hy with rfl | rfl
              · exact HXZ.out _ (List.mem_cons_self ..)
              · have := lineS_size t2 hn; omega) (HP.out.below hbb) (HE.out.below hbb) (HM.out.below hbb) (by rw [hpb t2 n hn]; decide)
            rw [hpb t2 n hn] at h
            exact h : Calls Tryd.prog 36 #[.slice (some ⟨W.heap.size, 0, none⟩) 2 2] (W.alloc (.cells #[.string H, .string (lineS t2 n)] 9)) fun e w' => e = .returned (.tuple #[.agg #[.slice none 0 0, .int .i64 0, .int .i64 0], .int .i64 2]) ∧ Below (W.alloc (.cells #[.string H, .string (lineS t2 n)] 9)).heap.size (W.alloc (.cells #[.string H, .string (lineS t2 n)] 9)) w'))
          have HRL := hid' (fun (t2 : Bool) (n : Int) (hn : I64 n) (W : World) (hB : Below w.heap.size w W) => (by
            have h := choice_Read (lineS t2 n) W (by have := lineS_size t2 hn; omega) (HP.out.below hB) (HE.out.below hB) (HM.out.below hB)
            rw [show readP (bL (lineS t2 n)) = some (t2, n) from readP_line t2 hn] at h
            exact h : Calls Tryd.prog 25 #[.string (lineS t2 n)] W fun e w' => e = .returned (.tuple #[.agg #[.bool t2, .int .i64 n], .bool true]) ∧ Below W.heap.size W w'))
          clear hpb HRS
          go_wp2
          go_loopw [15, 16, 17, 18, 19, 20, 90] (fun v15 v16 v17 v18 v19 v20 v90 wr => ∃ k : Nat, k ≤ cl.length ∧ v90 = .int .i64 k ∧ Rd wr (some ⟨b7, 0, none⟩) ((H :: T).map Value.string) ∧ Below w.heap.size w wr) (fun _ _ _ _ _ _ v90 _ => cl.length - (intOf v90).toNat)
          case atStart => exact ⟨0, Nat.zero_le _, rfl, HRR.out, HL.out⟩
          case round =>
            obtain ⟨k, hk, rfl, hR, hL⟩ := hrel
            have HRR := hid' hR
            have HL := hid' hL
            by_cases hlt : k < cl.length
            · have hlti : (k : Int) < (cl.length : Int) := by omega
              obtain ⟨ad, t2, n, rfl, hx, hc0, hc1⟩ := RdS.at2 (HR2.out.below hL) hlt
              have hn := HCI.out _ (List.mem_of_getElem? hx)
              simp only at hn
              have HN := hid' hn
              have HJ := hid' (Blk.new_ wr 32 #[.bool t2, .int .i64 n])
              have hba := bel_alloc (bel_refl wr) (.cells #[.bool t2, .int .i64 n] 32)
              have HLa := hid' (bel_then HL.out hba)
              have HRa := hid' (HRR.out.below hba)
              clear hR hL hx hba hn
              go_wp2_with fail
              refine (HLN.out t2 n HN.out _ HLa.out).mono ?_
              rintro e w10 ⟨rfl, hB10⟩
              have HJ10 := hid' (HJ.out.below hB10)
              have HL10 := hid' (bel_then HLa.out hB10)
              have HR10 := hid' (HRa.out.below hB10)
              clear hB10 hc0 hc1
              go_wp2_with fail
              refine (HRL.out t2 n HN.out _ HL10.out).mono ?_
              rintro e w11 ⟨rfl, hB11⟩
              have HQ := hid' (Blk.new_ w11 32 #[.bool t2, .int .i64 n])
              have hbx := bel_alloc hB11 (.cells #[.bool t2, .int .i64 n] 32)
              have HJ12 := hid' (HJ10.out.below hbx)
              have HL12 := hid' (bel_then HL10.out hbx)
              have hR12 := HR10.out.below hbx
              obtain ⟨ad0, hA0, hH0⟩ := hR12 0 (.string H) rfl
              injection hA0 with hA0
              subst hA0
              change (w11.alloc (.cells #[.bool t2, .int .i64 n] 32)).cell? ⟨b7, 0, none⟩ = some (.string H) at hH0
              have HR12 := hid' hR12
              have hl10 := (HJ10.out.below hB11).lt
              have hL1 : (0 : Int) < (l.length : Int) + 1 := by omega
              clear hB11 hbx hR12
              go_wp2_with fail
              have hs12 : (w11.alloc (.cells #[.bool t2, .int .i64 n] 32)).heap.size = w11.heap.size + 1 := by simp
              generalize hw12 : w11.alloc (.cells #[.bool t2, .int .i64 n] 32) = w12 at *
              have HX := HPB.out t2 n HN.out w12 HL12.out
              rw [hs12] at HX
              refine HX.mono ?_
              clear HX hs12
              rintro e w13 ⟨rfl, hB13⟩
              have hbb := bel_alloc (bel_refl w12) (.cells #[.string H, .string (lineS t2 n)] 9)
              have hbc := bel_alloc (bel_then hbb hB13) (.cells #[.slice none 0 0, .int .i64 0, .int .i64 0] 45)
              have HL14 := hid' (bel_then HL12.out hbc)
              have HR14 := hid' (HR12.out.below hbc)
              have HJ14 := hid' (HJ12.out.below hbc)
              have HQ14 := hid' (HQ.out.below hbc)
              have d0 : (w13.alloc (.cells #[.slice none 0 0, .int .i64 0, .int .i64 0] 45)).cell? ⟨wr.heap.size, 0, none⟩ = some (.bool t2) := by simpa using HJ14.out.cell 0
              have d1 : (w13.alloc (.cells #[.slice none 0 0, .int .i64 0, .int .i64 0] 45)).cell? ⟨wr.heap.size, 1, none⟩ = some (.int .i64 n) := by simpa using HJ14.out.cell 1
              have f0 : (w13.alloc (.cells #[.slice none 0 0, .int .i64 0, .int .i64 0] 45)).cell? ⟨w11.heap.size, 0, none⟩ = some (.bool t2) := by simpa using HQ14.out.cell 0
              have f1 : (w13.alloc (.cells #[.slice none 0 0, .int .i64 0, .int .i64 0] 45)).cell? ⟨w11.heap.size, 1, none⟩ = some (.int .i64 n) := by simpa using HQ14.out.cell 1
              clear hbb hbc hB13 hH0 hw12
              clear HQ HJ HJ10 HJ12 HR12 HL12 HR10 HL10 HRa HLa HJ14 HQ14 hl10
              have hnn : (n == n) = true := by simp
              go_wp2

              refine ⟨⟨_, _, _, _, _, _, _, _, _, _, _, _, _, _, _, _, _, _, _, _, _, _, _, _, _, _, _, _, _, _, _, _, _, _, _, _, _, _, _, ?_, rfl⟩, ?_⟩
              · exact ⟨k + 1, by omega, by go_num, HR14.out, HL14.out⟩
              · show cl.length - ((k : Int) + 1).toNat < cl.length - (k : Int).toNat
                omega
            · obtain rfl : k = cl.length := by omega
              clear hR hL
              go_wp2
              go_ret
              exact ⟨rfl, HL.out⟩
end Go.Proofs.YthdblloiapadkaaDoor
