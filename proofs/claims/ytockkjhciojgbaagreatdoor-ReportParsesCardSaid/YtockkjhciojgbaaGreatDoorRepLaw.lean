
/- What layer 26's laws hold scripts against (tidewaiterlaw26.print, told, same; tidewaiterlaw23.Small), walked. No condition. -/
import Derived.Test.YtockkjhciojgbaaGreatDoorRepPr
namespace Go.Proofs.YtockkjhciojgbaaGreatDoor
set_option maxRecDepth 100000
set_option linter.unusedSimpArgs false
open Go.RowKit
set_option linter.unusedVariables false
set_option linter.unusedSimpArgs false

set_option maxHeartbeats 8000000 in
theorem law26_told (A AL AC : Option Addr) (cp cl cc n2 n3 : Nat) (t d : Int) (l : List Rl) (w : World) (hr : RdS w A 5 fRl l) (hl : l.length ≤ 1000000) :
    Calls Tryz.prog 9 #[.agg #[.slice A l.length cp, .int .i64 t, .int .i64 d, .slice AL n2 cl, .slice AC n3 cc]] w fun e w' => e = .returned (.bool (l.all rlO && decide (l.length < 100))) ∧ Below w.heap.size w w' := by
  have HK := hid' (Blk.new_ w 34 #[.slice A l.length cp, .int .i64 t, .int .i64 d, .slice AL n2 cl, .slice AC n3 cc])
  have HL0 := hid' (bel_alloc (bel_refl w) (.cells #[.slice A l.length cp, .int .i64 t, .int .i64 d, .slice AL n2 cl, .slice AC n3 cc] 34))
  have HR := hid' hr
  obtain ⟨R, hR⟩ : ∃ R, R = (l.all rlO && decide (l.length < 100)) := ⟨_, rfl⟩
  rw [← hR]
  have HRR := hid' hR
  clear hr hR
  go_enter Tryz.func9, Tryz.ntmps9
  go_wp2
  generalize w.alloc (.cells #[.slice A l.length cp, .int .i64 t, .int .i64 d, .slice AL n2 cl, .slice AC n3 cc] 34) = w0 at *
  go_loopw [2, 4, 9] (fun v2 v4 v9 wr => ∃ k : Nat, k ≤ l.length ∧ v9 = .int .i64 k ∧ v2 = .bool false ∧ Hid (∀ j r, j < k → l[j]? = some r → rlO r = true) ∧ Below w0.heap.size w0 wr) (fun _ _ v9 _ => l.length - (intOf v9).toNat)
  case atStart => exact ⟨0, Nat.zero_le _, rfl, rfl, fun j r hj => by omega, bel_refl _⟩
  case round =>
    obtain ⟨k, hk, rfl, rfl, HJ, hb⟩ := hrel
    have HB := hid' hb
    by_cases hlt : k < l.length
    · obtain ⟨ad, a, b, q, n, s, rfl, hx, c0, c1, c2, c3, c4⟩ := (HR.out.below (bel_then HL0.out hb)).at5 hlt
      have hba := bel_alloc (bel_refl wr) (.cells #[.int .i64 a, .int .i64 b, .int .i64 q, .int .i64 n, .int .i64 s] 24)
      have HC := hid' (ref19_Only a b q n s (wr.alloc (.cells #[.int .i64 a, .int .i64 b, .int .i64 q, .int .i64 n, .int .i64 s] 24)))
      have HBA := hid' (bel_then hb hba)
      have HX := hid' hx
      have hO : onlyB a b q n s = rlO (a, b, q, n, s) := rfl
      rw [hO] at HC
      unfold ruleV at HC
      clear hx hb hba hO
      cases ho : rlO (a, b, q, n, s) with
      | true =>
        have HO := hid' ho
        rw [ho] at HC
        clear ho
        go_wp2_with fail
        refine HC.out.mono ?_
        rintro e w2 ⟨rfl, hB2⟩
        have HB2 := hid' (bel_then HBA.out hB2)
        clear hB2
        go_wp2
        go_roundw
        case rel =>
          refine ⟨k + 1, by omega, by go_num, rfl, fun j r hj hr => ?_, HB2.out⟩
          by_cases hjk : j = k
          · subst hjk; rw [HX.out] at hr; rw [← Option.some.inj hr]; exact HO.out
          · exact HJ.out j r (by omega) hr
        case measure => (simp only [intOf]; omega)
      | false =>
        have HE := hid' (show R = false from by
          rw [HRR.out]
          have : l.all rlO = false := by
            rw [List.all_eq_false]
            exact ⟨_, List.mem_of_getElem? HX.out, by rw [ho]; decide⟩
          rw [this]; rfl)
        rw [ho] at HC
        clear ho
        go_wp2_with fail
        refine HC.out.mono ?_
        rintro e w2 ⟨rfl, hB2⟩
        have HB2 := hid' (bel_then HBA.out hB2)
        clear hB2
        go_wp2
        go_ret
        exact ⟨by rw [HE.out]; rfl, bel_then HL0.out HB2.out⟩
    · obtain rfl : k = l.length := by omega
      have HE := hid' (show R = decide (l.length < 100) from by
        rw [HRR.out]
        have : l.all rlO = true := by
          rw [List.all_eq_true]
          intro r hr
          obtain ⟨j, hj, e⟩ := List.mem_iff_getElem.1 hr
          exact HJ.out j r hj (by rw [List.getElem?_eq_getElem hj, e])
        rw [this]; rfl)
      have HK2 := HK.out.below hb
      have c0 : wr.cell? ⟨w.heap.size, 0, none⟩ = some (.slice A l.length cp) := by simpa using HK2.cell 0
      clear HK2 hb
      by_cases h100 : (l.length : Int) < 100
      · have hd : decide (l.length < 100) = true := decide_eq_true (by omega)
        rw [hd] at HE
        go_wp2
        go_ret
        exact ⟨by rw [HE.out]; rfl, bel_then HL0.out HB.out⟩
      · have hd : decide (l.length < 100) = false := decide_eq_false (by omega)
        rw [hd] at HE
        go_wp2
        go_ret
        exact ⟨by rw [HE.out]; rfl, bel_then HL0.out HB.out⟩
set_option maxHeartbeats 8000000 in
theorem law26_print (A AL AC : Option Addr) (cp cl cc : Nat) (t d : Int) (l : List Rl) (lg : List (List UInt8)) (ch : List (Bool × Int)) (w : World) (hr : RdS w A 5 fRl l) (hlog : Rd w AL (lg.map sV)) (hch : RdS w AC 2 fCh ch) (hl : l.length ≤ 1000) (hll : lg.length ≤ 1000) (hcl : ch.length ≤ 10000)
    (hI : ∀ r ∈ l, rlI r) (ht : I64 t) (hd : I64 d) (hz : ∀ x ∈ lg, x.length ≤ 10000) (hci : ∀ x ∈ ch, I64 x.2) :
    Calls Tryz.prog 12 #[.agg #[.slice A l.length cp, .int .i64 t, .int .i64 d, .slice AL lg.length cl, .slice AC ch.length cc]] w fun e w' => e = .returned (.string (strOf (scriptL l t d lg ch))) ∧ Below w.heap.size w w' := by
  rw [scriptL_eq]
  have HK := hid' (Blk.new_ w 34 #[.slice A l.length cp, .int .i64 t, .int .i64 d, .slice AL lg.length cl, .slice AC ch.length cc])
  have HL0 := hid' (bel_alloc (bel_refl w) (.cells #[.slice A l.length cp, .int .i64 t, .int .i64 d, .slice AL lg.length cl, .slice AC ch.length cc] 34))
  have HLG := hid' hlog
  have HCH := hid' hch
  have HZ := hid' hz
  have HCI := hid' hci
  have HLE := hid' (fun k => logsL_len (lg := lg.take k) (fun x hx => hz x (List.mem_of_mem_take hx)))
  have HCE := hid' (fun k => chsL_len (ch := ch.take k) (fun x hx => hci x (List.mem_of_mem_take hx)))
  have hcz := cfgL_len hI ht hd
  obtain ⟨C, hC⟩ : ∃ C, C = cfgL l t d := ⟨_, rfl⟩
  have HCP := hid' (fun W (h : Below w.heap.size w W) => ref19_Print A cp l t d W (hr.below h) hl hI ht hd)
  rw [← hC] at hcz HCP ⊢
  have hcz2 : C.length ≤ 70000 := by omega
  obtain ⟨n1, hn1⟩ : ∃ n, n = l.length := ⟨_, rfl⟩
  obtain ⟨n2, hn2⟩ : ∃ n, n = lg.length := ⟨_, rfl⟩
  obtain ⟨n3, hn3⟩ : ∃ n, n = ch.length := ⟨_, rfl⟩
  rw [← hn1] at HK HL0 HCP
  rw [← hn2] at HK HL0 hll
  rw [← hn3] at HK HL0 hcl
  rw [← hn1, ← hn2, ← hn3]
  have HN2 := hid' hn2
  have HN3 := hid' hn3
  clear hr hlog hch hI ht hd hz hci hC hcz hl hn1 hn2 hn3
  go_enter Tryz.func12, Tryz.ntmps12
  go_wp2_with fail
  generalize w.alloc (.cells #[.slice A n1 cp, .int .i64 t, .int .i64 d, .slice AL n2 cl, .slice AC n3 cc] 34) = w0 at *
  refine (HCP.out _ HL0.out).mono ?_
  rintro e w2 ⟨rfl, hB2⟩
  have HL2 := hid' (bel_then HL0.out hB2)
  have HK2 := hid' (HK.out.below hB2)
  have c3 : w2.cell? ⟨w.heap.size, 3, none⟩ = some (.slice AL n2 cl) := by simpa using HK2.out.cell 3
  have hst : strOf C = strOf (C ++ logsL (lg.take 0)) := by rw [List.take_zero]; simp [logsL]
  rw [hst]
  clear hB2 hst
  go_wp2
  go_loopw [3, 5, 15] (fun v3 v5 v15 wr => ∃ k : Nat, k ≤ n2 ∧ v15 = .int .i64 k ∧ v3 = .string (strOf (C ++ logsL (lg.take k))) ∧ Below w2.heap.size w2 wr) (fun _ _ v15 _ => n2 - (intOf v15).toNat)
  case atStart => exact ⟨0, Nat.zero_le _, rfl, rfl, bel_refl _⟩
  case round =>
    obtain ⟨k, hk, rfl, rfl, hb⟩ := hrel
    have HB := hid' hb
    have hlen := HLE.out k
    rw [List.length_take] at hlen
    obtain ⟨S1, hS1⟩ : ∃ x, x = strOf (C ++ logsL (lg.take k)) := ⟨_, rfl⟩
    have hsz : S1.size ≤ 130000000 := by rw [hS1]; show (C ++ logsL (lg.take k)).length ≤ _; rw [List.length_append]; omega
    rw [← hS1]
    have HS1 := hid' hS1
    clear hS1
    by_cases hlt : k < n2
    · have hlt' : k < lg.length := by rw [← HN2.out]; exact hlt
      obtain ⟨ad, x, hA, hx, hcx⟩ := Rd.at_ (f := sV) (HLG.out.below (bel_then HL2.out hb)) hlt'
      subst hA
      have hxz := HZ.out x (List.mem_of_getElem? hx)
      have HQ := hid' (ref04_Quote (strOf x) wr (by show x.length ≤ _; omega))
      have HNX := hid' (logsL_take hx)
      change wr.cell? (ad.add k) = some (.string (strOf x)) at hcx
      obtain ⟨y, hy⟩ : ∃ y, y = strOf (quoteP (strOf x)) := ⟨_, rfl⟩
      have hyz : y.size ≤ 121000 := by
        rw [hy]; show (quoteP (strOf x)).length ≤ _
        have h1 := quoteP_len (strOf x)
        have h2 : (strOf x).size = x.length := by simp [strOf, ByteArray.size]
        omega
      have HLX := hid' (show (⟨#[108, 111, 103, 32]⟩ : ByteArray) ++ y ++ ⟨#[10]⟩ = strOf (logL x ++ [10]) from by
        rw [hy, show (⟨#[108, 111, 103, 32]⟩ : ByteArray) = strOf wLog from rfl, show (⟨#[10]⟩ : ByteArray) = strOf [10] from rfl, strN_app, strN_app]; rfl)
      rw [← hy] at HQ
      have h1 : 4 + y.size ≤ 9223372036854775807 := by omega
      have h2 : 4 + y.size + 1 ≤ 9223372036854775807 := by omega
      have h3 : S1.size + (4 + y.size + 1) ≤ 9223372036854775807 := by omega
      have h4 : S1.size + ((⟨#[108, 111, 103, 32]⟩ : ByteArray) ++ y ++ ⟨#[10]⟩).size ≤ 9223372036854775807 := by rw [ByteArray.size_append, ByteArray.size_append]; exact h3
      clear hx hlt' hy c3 hb
      go_wp2_with fail
      refine HQ.out.mono ?_
      rintro e' w4 ⟨rfl, hB4⟩
      have HB4 := hid' (bel_then HB.out hB4)
      clear hB4
      go_wp2
      go_roundw
      case rel => exact ⟨k + 1, by omega, by go_num, by rw [HNX.out, ← List.append_assoc, ← strN_app, ← HS1.out, ← HLX.out], HB4.out⟩
      case measure => (simp only [intOf]; omega)
    · obtain rfl : k = n2 := by omega
      have hLs : (logsL lg).length ≤ 120011000 := by
        have h1 := HLE.out lg.length
        rw [List.take_length] at h1
        have := HN2.out
        omega
      have hD0 : S1 = strOf (C ++ logsL lg ++ chsL (ch.take 0)) := by
        rw [HS1.out, List.take_of_length_le (by rw [← HN2.out]; exact Nat.le_refl _), List.take_zero]; simp [chsL]
      have c4 : wr.cell? ⟨w.heap.size, 4, none⟩ = some (.slice AC n3 cc) := by simpa using (HK2.out.below hb).cell 4
      obtain ⟨D, hD⟩ : ∃ D, D = C ++ logsL lg := ⟨_, rfl⟩
      have hDl : D.length ≤ 121000000 := by rw [hD, List.length_append]; omega
      rw [← hD] at hD0
      have HD := hid' hD
      have HW2 := hid' (bel_then HL2.out hb)
      have HD0 := hid' hD0
      clear hLs hlen c3 hD hb hD0 hsz
      go_wp2
      go_loopw [3, 7, 8, 29] (fun v3 v7 v8 v29 wr2 => ∃ k : Nat, k ≤ n3 ∧ v29 = .int .i64 k ∧ v3 = .string (strOf (D ++ chsL (ch.take k))) ∧ Below wr.heap.size wr wr2) (fun _ _ _ v29 _ => n3 - (intOf v29).toNat)
      case atStart => exact ⟨0, Nat.zero_le _, rfl, by rw [← HD0.out], bel_refl _⟩
      case round =>
        rename_i wq _ _ _ _ wr
        obtain ⟨k, hk, rfl, rfl, hb⟩ := hrel
        have HB2 := hid' hb
        have hlen := HCE.out k
        rw [List.length_take] at hlen
        obtain ⟨S2, hS2⟩ : ∃ x, x = strOf (D ++ chsL (ch.take k)) := ⟨_, rfl⟩
        have hsz : S2.size ≤ 130000000 := by rw [hS2]; show (D ++ chsL (ch.take k)).length ≤ _; rw [List.length_append]; omega
        rw [← hS2]
        have HS2 := hid' hS2
        clear hS2
        by_cases hlt : k < n3
        · have hlt' : k < ch.length := by rw [← HN3.out]; exact hlt
          obtain ⟨ad, cb, cn, hA, hx, d0, d1⟩ := RdS.at2 (HCH.out.below (bel_then HW2.out hb)) hlt'
          subst hA
          have hci := HCI.out _ (List.mem_of_getElem? hx)
          simp only at hci
          have hba := bel_alloc (bel_refl wr) (.cells #[.bool cb, .int .i64 cn] 52)
          have HQ := hid' (ref19_Num cn (wr.alloc (.cells #[.bool cb, .int .i64 cn] 52)) hci)
          have HBA := hid' (bel_then hb hba)
          have HNX := hid' (chsL_take hx)
          have hnz := numT_size hci
          obtain ⟨y, hy⟩ : ∃ y, y = numT cn := ⟨_, rfl⟩
          rw [← hy] at HQ hnz
          have h1 : 5 + y.size ≤ 9223372036854775807 := by omega
          have h2 : 5 + y.size + 1 ≤ 9223372036854775807 := by omega
          have h3 : S2.size + (5 + y.size + 1) ≤ 9223372036854775807 := by omega
          have HLX := hid' (show (if cb = true then (⟨#[116, 105, 99, 107, 32]⟩ : ByteArray) else ⟨#[112, 111, 108, 108, 32]⟩) ++ y ++ ⟨#[10]⟩ = strOf (lineL cb cn ++ [10]) from by
            rw [hy]
            unfold numT lineL
            cases cb
            · rw [if_neg (by decide), if_neg (by decide), show (⟨#[112, 111, 108, 108, 32]⟩ : ByteArray) = strOf (pollL ++ [32]) from rfl, show (⟨#[10]⟩ : ByteArray) = strOf [10] from rfl, strN_app, strN_app]; rfl
            · rw [if_pos rfl, if_pos rfl, show (⟨#[116, 105, 99, 107, 32]⟩ : ByteArray) = strOf (tickL ++ [32]) from rfl, show (⟨#[10]⟩ : ByteArray) = strOf [10] from rfl, strN_app, strN_app]; rfl)
          clear hx hb hlt' hy c4 hba hci
          cases cb with
          | true =>
            have h4 : S2.size + ((⟨#[116, 105, 99, 107, 32]⟩ : ByteArray) ++ y ++ ⟨#[10]⟩).size ≤ 9223372036854775807 := by rw [ByteArray.size_append, ByteArray.size_append]; exact h3
            rw [if_pos rfl] at HLX
            go_wp2_with fail
            refine HQ.out.mono ?_
            rintro e' w4 ⟨rfl, hB4⟩
            have HB4 := hid' (bel_then HBA.out hB4)
            clear hB4
            go_wp2
            go_roundw
            case rel => exact ⟨k + 1, by omega, by go_num, by rw [HNX.out, ← List.append_assoc, ← strN_app, ← HS2.out, ← HLX.out], HB4.out⟩
            case measure => (simp only [intOf]; omega)
          | false =>
            have h4 : S2.size + ((⟨#[112, 111, 108, 108, 32]⟩ : ByteArray) ++ y ++ ⟨#[10]⟩).size ≤ 9223372036854775807 := by rw [ByteArray.size_append, ByteArray.size_append]; exact h3
            rw [if_neg (by decide)] at HLX
            go_wp2_with fail
            refine HQ.out.mono ?_
            rintro e' w4 ⟨rfl, hB4⟩
            have HB4 := hid' (bel_then HBA.out hB4)
            clear hB4
            go_wp2
            go_roundw
            case rel => exact ⟨k + 1, by omega, by go_num, by rw [HNX.out, ← List.append_assoc, ← strN_app, ← HS2.out, ← HLX.out], HB4.out⟩
            case measure => (simp only [intOf]; omega)
        · obtain rfl : k = n3 := by omega
          have HF := hid' (show C ++ logsL lg ++ chsL ch = D ++ chsL (ch.take k) from by rw [← HD.out, List.take_of_length_le (by rw [← HN3.out]; exact Nat.le_refl _)])
          clear hb c4
          go_wp2
          go_ret
          exact ⟨by rw [HF.out, ← HS2.out]; rfl, bel_then HW2.out HB2.out⟩
set_option maxHeartbeats 8000000 in
theorem law26_same (A A' AL AL' AC AC' : Option Addr) (cp cp' cl cl' cc cc' : Nat) (t d : Int) (l : List Rl) (lg : List (List UInt8)) (ch : List (Bool × Int)) (w : World) (hr : RdS w A 5 fRl l) (hr' : RdS w A' 5 fRl l) (hlog : Rd w AL (lg.map sV)) (hlog' : Rd w AL' (lg.map sV)) (hch : RdS w AC 2 fCh ch) (hch' : RdS w AC' 2 fCh ch)
    (hl : l.length ≤ 1000000) (hll : lg.length ≤ 1000000) (hcl : ch.length ≤ 1000000) :
    Calls Tryz.prog 13 #[.agg #[.slice A l.length cp, .int .i64 t, .int .i64 d, .slice AL lg.length cl, .slice AC ch.length cc], .agg #[.slice A' l.length cp', .int .i64 t, .int .i64 d, .slice AL' lg.length cl', .slice AC' ch.length cc']] w fun e w' => e = .returned (.bool true) ∧ Below w.heap.size w w' := by
  have HSM := hid' (fun W (h : Below w.heap.size w W) => ref19_Same A A' cp cp' l t d W (hr.below h) (hr'.below h) hl)
  obtain ⟨n1, hn1⟩ : ∃ n, n = l.length := ⟨_, rfl⟩
  obtain ⟨n2, hn2⟩ : ∃ n, n = lg.length := ⟨_, rfl⟩
  obtain ⟨n3, hn3⟩ : ∃ n, n = ch.length := ⟨_, rfl⟩
  have HN2 := hid' hn2
  have HN3 := hid' hn3
  rw [← hn1] at HSM
  rw [← hn1, ← hn2, ← hn3]
  rw [← hn2] at hll
  rw [← hn3] at hcl
  have hba := bel_alloc (bel_refl w) (.cells #[.slice A n1 cp, .int .i64 t, .int .i64 d, .slice AL n2 cl, .slice AC n3 cc] 32)
  have HKa := hid' (Blk.new_ w 32 #[.slice A n1 cp, .int .i64 t, .int .i64 d, .slice AL n2 cl, .slice AC n3 cc])
  have hbb := bel_alloc (bel_refl (w.alloc (.cells #[.slice A n1 cp, .int .i64 t, .int .i64 d, .slice AL n2 cl, .slice AC n3 cc] 32))) (.cells #[.slice A' n1 cp', .int .i64 t, .int .i64 d, .slice AL' n2 cl', .slice AC' n3 cc'] 34)
  have HKb := hid' (Blk.new_ (w.alloc (.cells #[.slice A n1 cp, .int .i64 t, .int .i64 d, .slice AL n2 cl, .slice AC n3 cc] 32)) 34 #[.slice A' n1 cp', .int .i64 t, .int .i64 d, .slice AL' n2 cl', .slice AC' n3 cc'])
  have HKc := hid' (HKa.out.below hbb)
  have HL0 := hid' (bel_then hba hbb)
  have hs1 : (w.alloc (.cells #[.slice A n1 cp, .int .i64 t, .int .i64 d, .slice AL n2 cl, .slice AC n3 cc] 32)).heap.size = w.heap.size + 1 := by simp
  rw [hs1] at HKb
  have HG := hid' hlog
  have HG' := hid' hlog'
  have HC := hid' hch
  have HC' := hid' hch'
  clear hba hbb hr hr' HKa hlog hlog' hch hch' hn1 hn2 hn3 hs1 hl
  go_enter Tryz.func13, Tryz.ntmps13
  go_wp2_with fail
  generalize hw0 : (w.alloc (.cells #[.slice A n1 cp, .int .i64 t, .int .i64 d, .slice AL n2 cl, .slice AC n3 cc] 32)).alloc (.cells #[.slice A' n1 cp', .int .i64 t, .int .i64 d, .slice AL' n2 cl', .slice AC' n3 cc'] 34) = w0 at *
  refine (HSM.out _ HL0.out).mono ?_
  rintro e w1 ⟨rfl, hB1⟩
  have HA := hid' (HKc.out.below hB1)
  have HB := hid' (HKb.out.below hB1)
  have HL1 := hid' (bel_then HL0.out hB1)
  have a3 : w1.cell? ⟨w.heap.size, 3, none⟩ = some (.slice AL n2 cl) := by simpa using HA.out.cell 3
  have a4 : w1.cell? ⟨w.heap.size, 4, none⟩ = some (.slice AC n3 cc) := by simpa using HA.out.cell 4
  have b3 : w1.cell? ⟨w.heap.size + 1, 3, none⟩ = some (.slice AL' n2 cl') := by simpa using HB.out.cell 3
  have b4 : w1.cell? ⟨w.heap.size + 1, 4, none⟩ = some (.slice AC' n3 cc') := by simpa using HB.out.cell 4
  clear hB1 hw0
  go_wp2
  go_loopw [5, 34] (fun v5 v34 wr => ∃ k : Nat, k ≤ n2 ∧ v34 = .int .i64 k ∧ Dr w1 wr) (fun _ v34 _ => n2 - (intOf v34).toNat)
  case atStart => exact ⟨0, Nat.zero_le _, rfl, Dr.refl _⟩
  case round =>
    obtain ⟨k, hk, rfl, hD⟩ := hrel
    have HD := hid' hD
    have hb := hD.below
    have a3 : wr.cell? ⟨w.heap.size, 3, none⟩ = some (.slice AL n2 cl) := by simpa using (HA.out.below hb).cell 3
    have b3 : wr.cell? ⟨w.heap.size + 1, 3, none⟩ = some (.slice AL' n2 cl') := by simpa using (HB.out.below hb).cell 3
    by_cases hlt : k < n2
    · have hlt' : k < lg.length := by rw [← HN2.out]; exact hlt
      have hki : (k : Int) < (n2 : Int) := by omega
      obtain ⟨ad, x, hA, hx, hcx⟩ := Rd.at_ (f := sV) (HG.out.below (bel_then HL1.out hb)) hlt'
      obtain ⟨ad', x', hA', hx', hcx'⟩ := Rd.at_ (f := sV) (HG'.out.below (bel_then HL1.out hb)) hlt'
      rw [hx] at hx'
      have hxx := Option.some.inj hx'
      subst hxx hA hA'
      change wr.cell? (ad.add k) = some (.string (strOf x)) at hcx
      change wr.cell? (ad'.add k) = some (.string (strOf x)) at hcx'
      clear hx hx' hlt' hD hb
      go_wp2
      go_quiet (fail)
      go_wp2
      go_roundw
      case rel => exact ⟨k + 1, by omega, by go_num, by first | exact HD.out.step | exact HD.out.stepd⟩
      case measure => (simp only [intOf]; omega)
    · obtain rfl : k = n2 := by omega
      have a4 : wr.cell? ⟨w.heap.size, 4, none⟩ = some (.slice AC n3 cc) := by simpa using (HA.out.below hb).cell 4
      have HW1 := hid' (bel_then HL1.out hb)
      have HA2 := hid' (HA.out.below hb)
      have HB2 := hid' (HB.out.below hb)
      clear a3 b3 hD hb
      go_wp2
      go_loopw [6, 52] (fun v6 v52 wr2 => ∃ k : Nat, k ≤ n3 ∧ v52 = .int .i64 k ∧ Dr wr wr2) (fun _ v52 _ => n3 - (intOf v52).toNat)
      case atStart => exact ⟨0, Nat.zero_le _, rfl, Dr.refl _⟩
      case round =>
        rename_i wq _ _ wr
        obtain ⟨k, hk, rfl, hD⟩ := hrel
        have HD := hid' hD
        have hb := hD.below
        have a4 : wr.cell? ⟨w.heap.size, 4, none⟩ = some (.slice AC n3 cc) := by simpa using (HA2.out.below hb).cell 4
        have b4 : wr.cell? ⟨w.heap.size + 1, 4, none⟩ = some (.slice AC' n3 cc') := by simpa using (HB2.out.below hb).cell 4
        by_cases hlt : k < n3
        · have hlt' : k < ch.length := by rw [← HN3.out]; exact hlt
          have hki : (k : Int) < (n3 : Int) := by omega
          obtain ⟨ad, cb, cn, hA, hx, d0, d1⟩ := RdS.at2 (HC.out.below (bel_then HW1.out hb)) hlt'
          obtain ⟨ad', cb', cn', hA', hx', f0, f1⟩ := RdS.at2 (HC'.out.below (bel_then HW1.out hb)) hlt'
          rw [hx] at hx'
          have hxx := Option.some.inj hx'
          simp only [Prod.mk.injEq] at hxx
          obtain ⟨rfl, rfl⟩ := hxx
          subst hA hA'
          have e1 : (cb == cb) = true := by simp
          have e2 : (cn == cn) = true := by simp
          clear hx hx' hlt' hD hb
          go_wp2
          go_quiet (fail)
          go_wp2
          go_roundw
          case rel => exact ⟨k + 1, by omega, by go_num, by first | exact HD.out.step | exact HD.out.stepd⟩
          case measure => (simp only [intOf]; omega)
        · obtain rfl : k = n3 := by omega
          go_wp2
          go_ret
          exact ⟨rfl, bel_then HW1.out hb⟩
def smallN (rl : Nat) (lg : List (List UInt8)) (cn : Nat) : Bool := decide (lg.length ≤ 8) && decide (cn ≤ 120) && decide (rl ≤ 5000) && lg.all fun x => decide (x.length ≤ 400)
set_option maxHeartbeats 8000000 in
theorem law23_Small (A AL AC : Option Addr) (cp cl cc n1 n3 : Nat) (t d : Int) (lg : List (List UInt8)) (w : World) (hlog : Rd w AL (lg.map sV)) :
    Calls Tryz.prog 8 #[.agg #[.slice A n1 cp, .int .i64 t, .int .i64 d, .slice AL lg.length cl, .slice AC n3 cc]] w fun e w' => e = .returned (.int .i64 (if smallN n1 lg n3 = true then 1 else 0)) ∧ Below w.heap.size w w' := by
  have HK := hid' (Blk.new_ w 34 #[.slice A n1 cp, .int .i64 t, .int .i64 d, .slice AL lg.length cl, .slice AC n3 cc])
  have HL0 := hid' (bel_alloc (bel_refl w) (.cells #[.slice A n1 cp, .int .i64 t, .int .i64 d, .slice AL lg.length cl, .slice AC n3 cc] 34))
  have HG := hid' hlog
  obtain ⟨R, hR⟩ : ∃ R : Int, R = (if smallN n1 lg n3 = true then 1 else 0) := ⟨_, rfl⟩
  rw [← hR]
  have HRR := hid' hR
  clear hlog hR
  have h0 : (¬ (lg.length ≤ 8 ∧ n3 ≤ 120 ∧ n1 ≤ 5000 ∧ ∀ x ∈ lg, x.length ≤ 400)) → R = 0 := fun h => by
    rw [HRR.out, if_neg]
    intro e
    unfold smallN at e
    simp only [Bool.and_eq_true, decide_eq_true_eq, List.all_eq_true] at e
    exact h ⟨e.1.1.1, e.1.1.2, e.1.2, e.2⟩
  have h1 : (lg.length ≤ 8 ∧ n3 ≤ 120 ∧ n1 ≤ 5000 ∧ ∀ x ∈ lg, x.length ≤ 400) → R = 1 := fun h => by
    rw [HRR.out, if_pos]
    unfold smallN
    simp only [Bool.and_eq_true, decide_eq_true_eq, List.all_eq_true]
    exact ⟨⟨⟨h.1, h.2.1⟩, h.2.2.1⟩, h.2.2.2⟩
  have H0 := hid' h0
  have H1 := hid' h1
  clear h0 h1
  obtain ⟨n2, hn2⟩ : ∃ n, n = lg.length := ⟨_, rfl⟩
  rw [← hn2] at HK HL0 H0 H1 ⊢
  have HN2 := hid' hn2
  clear hn2
  by_cases g1 : (8 : Int) < (n2 : Int)
  · have HE := hid' (H0.out (fun h => by omega))
    go_enter Tryz.func8, Tryz.ntmps8
    go_wp2
    go_ret
    exact ⟨by rw [HE.out]; rfl, HL0.out⟩
  by_cases g2 : (120 : Int) < (n3 : Int)
  · have HE := hid' (H0.out (fun h => by omega))
    go_enter Tryz.func8, Tryz.ntmps8
    go_wp2
    go_ret
    exact ⟨by rw [HE.out]; rfl, HL0.out⟩
  by_cases g3 : (5000 : Int) < (n1 : Int)
  · have HE := hid' (H0.out (fun h => by omega))
    go_enter Tryz.func8, Tryz.ntmps8
    go_wp2
    go_ret
    exact ⟨by rw [HE.out]; rfl, HL0.out⟩
  go_enter Tryz.func8, Tryz.ntmps8
  go_wp2
  generalize w.alloc (.cells #[.slice A n1 cp, .int .i64 t, .int .i64 d, .slice AL n2 cl, .slice AC n3 cc] 34) = w0 at *
  go_loopw [2, 4, 25] (fun v2 v4 v25 wr => ∃ k : Nat, k ≤ n2 ∧ v25 = .int .i64 k ∧ v2 = .int .i64 0 ∧ Hid (∀ (j : Nat) (x : List UInt8), j < k → lg[j]? = some x → x.length ≤ 400) ∧ wr = w0) (fun _ _ v25 _ => n2 - (intOf v25).toNat)
  case atStart => exact ⟨0, Nat.zero_le _, rfl, rfl, fun j x hj => by omega, rfl⟩
  case round =>
    obtain ⟨k, hk, rfl, rfl, HJ, rfl⟩ := hrel
    by_cases hlt : k < n2
    · have hlt' : k < lg.length := by rw [← HN2.out]; exact hlt
      obtain ⟨ad, x, hA, hx, hcx⟩ := Rd.at_ (f := sV) (HG.out.below HL0.out) hlt'
      subst hA
      change wr.cell? (ad.add k) = some (.string (strOf x)) at hcx
      have HX := hid' hx
      obtain ⟨y, hy⟩ : ∃ y, y = strOf x := ⟨_, rfl⟩
      have hyz : y.size = x.length := by rw [hy]; simp [strOf, ByteArray.size]
      have HYZ := hid' hyz
      rw [← hy] at hcx
      clear hx hlt' hy hyz
      by_cases h4 : (400 : Int) < (y.size : Int)
      · have HE := hid' (H0.out (fun h => by have := h.2.2.2 x (List.mem_of_getElem? HX.out); have := HYZ.out; omega))
        go_wp2
        go_ret
        exact ⟨by rw [HE.out]; rfl, HL0.out⟩
      · go_wp2
        go_roundw
        case rel =>
          refine ⟨k + 1, by omega, by go_num, rfl, fun j z hj hz => ?_, by trivial⟩
          by_cases hjk : j = k
          · subst hjk; rw [HX.out] at hz; rw [← Option.some.inj hz]; have := HYZ.out; omega
          · exact HJ.out j z (by omega) hz
        case measure => (simp only [intOf]; omega)
    · obtain rfl : k = n2 := by omega
      have HE := hid' (H1.out ⟨by omega, by omega, by omega, fun x hx => by
        obtain ⟨j, hj, e⟩ := List.mem_iff_getElem.1 hx
        exact HJ.out j x (by rw [HN2.out]; exact hj) (by rw [List.getElem?_eq_getElem hj, e])⟩)
      go_wp2
      go_ret
      exact ⟨by rw [HE.out]; rfl, HL0.out⟩
end Go.Proofs.YtockkjhciojgbaaGreatDoor
