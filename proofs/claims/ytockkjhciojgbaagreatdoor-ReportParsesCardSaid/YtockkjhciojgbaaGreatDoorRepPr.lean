
/- A script in words, both ways (package report: Print; tidewaiterlaw26.print), walked. No condition but the tables of Go's own. -/
import Derived.Test.YtockkjhciojgbaaGreatDoorPackR
namespace Go.Proofs.YtockkjhciojgbaaGreatDoor
set_option maxRecDepth 100000
set_option linter.unusedSimpArgs false
open Go.RowKit
set_option linter.unusedVariables false
set_option linter.unusedSimpArgs false

def logsL (lg : List (List UInt8)) : List UInt8 := lg.flatMap fun x => logL x ++ [10]
def chsL (ch : List (Bool × Int)) : List UInt8 := ch.flatMap fun c => lineL c.1 c.2 ++ [10]
theorem scriptL_eq (l : List Rl) (t d : Int) (lg : List (List UInt8)) (ch : List (Bool × Int)) : scriptL l t d lg ch = cfgL l t d ++ logsL lg ++ chsL ch := rfl
theorem logsL_take {lg : List (List UInt8)} {k : Nat} {x : List UInt8} (h : lg[k]? = some x) : logsL (lg.take (k + 1)) = logsL (lg.take k) ++ (logL x ++ [10]) := by unfold logsL; rw [List.take_add_one, h]; simp
theorem chsL_take {ch : List (Bool × Int)} {k : Nat} {x : Bool × Int} (h : ch[k]? = some x) : chsL (ch.take (k + 1)) = chsL (ch.take k) ++ (lineL x.1 x.2 ++ [10]) := by unfold chsL; rw [List.take_add_one, h]; simp
theorem logL_len {x : List UInt8} (h : x.length ≤ 10000) : (logL x).length ≤ 120010 := by
  unfold logL
  have := quoteP_len ⟨x.toArray⟩
  have h2 : (⟨x.toArray⟩ : ByteArray).size = x.length := by simp [ByteArray.size]
  rw [List.length_append]
  have hw : wLog.length = 4 := rfl
  omega
theorem logsL_len {lg : List (List UInt8)} (h : ∀ x ∈ lg, x.length ≤ 10000) : (logsL lg).length ≤ 120011 * lg.length := by
  induction lg with
  | nil => simp [logsL]
  | cons x l ih =>
    have h1 := logL_len (h x (List.mem_cons_self ..))
    have h2 := ih (fun y hy => h y (List.mem_cons_of_mem _ hy))
    unfold logsL at h2 ⊢
    simp only [List.flatMap_cons, List.length_append, List.length_cons, List.length_nil]
    omega
theorem lineL_len (b : Bool) {n : Int} (h : I64 n) : (lineL b n).length ≤ 30 := by
  have h1 := itoa_len h
  unfold lineL
  rw [List.length_append, List.length_cons]
  have h2 : (if b = true then tickL else pollL).length = 4 := by cases b <;> rfl
  omega
theorem chsL_len {ch : List (Bool × Int)} (h : ∀ x ∈ ch, I64 x.2) : (chsL ch).length ≤ 31 * ch.length := by
  induction ch with
  | nil => simp [chsL]
  | cons x l ih =>
    have h1 := lineL_len x.1 (h x (List.mem_cons_self ..))
    have h2 := ih (fun y hy => h y (List.mem_cons_of_mem _ hy))
    unfold chsL at h2 ⊢
    simp only [List.flatMap_cons, List.length_append, List.length_cons, List.length_nil]
    omega
set_option maxHeartbeats 8000000 in
theorem report_Print (A AL AC : Option Addr) (cp cl cc : Nat) (t d : Int) (l : List Rl) (lg : List (List UInt8)) (ch : List (Bool × Int)) (w : World) (hr : RdS w A 5 fRl l) (hlog : Rd w AL (lg.map sV)) (hch : RdS w AC 2 fCh ch) (hl : l.length ≤ 1000) (hll : lg.length ≤ 100) (hcl : ch.length ≤ 1000)
    (hI : ∀ r ∈ l, rlI r) (ht : I64 t) (hd : I64 d) (hz : ∀ x ∈ lg, x.length ≤ 10000) (hci : ∀ x ∈ ch, I64 x.2) (hT : TabT w) :
    Calls Tryz.prog 10 #[.agg #[.slice A l.length cp, .int .i64 t, .int .i64 d, .slice AL lg.length cl, .slice AC ch.length cc]] w fun e w' => e = .returned (.string (strOf (scriptL l t d lg ch))) ∧ Below w.heap.size w w' := by
  rw [scriptL_eq]
  have HK := hid' (Blk.new_ w 32 #[.slice A l.length cp, .int .i64 t, .int .i64 d, .slice AL lg.length cl, .slice AC ch.length cc])
  have HL0 := hid' (bel_alloc (bel_refl w) (.cells #[.slice A l.length cp, .int .i64 t, .int .i64 d, .slice AL lg.length cl, .slice AC ch.length cc] 32))
  have HLG := hid' hlog
  have HCH := hid' hch
  have HT := hid' hT
  have HZ := hid' hz
  have HCI := hid' hci
  have HLE := hid' (fun k => logsL_len (lg := lg.take k) (fun x hx => hz x (List.mem_of_mem_take hx)))
  have HCE := hid' (fun k => chsL_len (ch := ch.take k) (fun x hx => hci x (List.mem_of_mem_take hx)))
  have hcz := cfgL_len hI ht hd
  obtain ⟨C, hC⟩ : ∃ C, C = cfgL l t d := ⟨_, rfl⟩
  have HCP := hid' (fun W (h : Below w.heap.size w W) => config_Print A cp l t d W (hr.below h) hl hI ht hd (hT.below h).1)
  rw [← hC] at hcz HCP ⊢
  have hcz2 : C.length ≤ 70000 := by omega
  obtain ⟨n1, hn1⟩ : ∃ n, n = l.length := ⟨_, rfl⟩
  obtain ⟨n2, hn2⟩ : ∃ n, n = lg.length := ⟨_, rfl⟩
  obtain ⟨n3, hn3⟩ : ∃ n, n = ch.length := ⟨_, rfl⟩
  rw [← hn1] at HK HL0 HCP
  rw [← hn2] at HK HL0 hll
  rw [← hn3] at HK HL0 hcl
  rw [← hn1, ← hn2, ← hn3]
  have HN2 := hid' hn2
  have HN3 := hid' hn3
  clear hr hlog hch hI ht hd hz hci hT hC hcz hl hn1 hn2 hn3
  go_enter Tryz.func10, Tryz.ntmps10
  go_wp2_with fail
  have hs0 : (w.alloc (.cells #[.slice A n1 cp, .int .i64 t, .int .i64 d, .slice AL n2 cl, .slice AC n3 cc] 32)).heap.size = w.heap.size + 1 := by simp
  generalize hw0 : w.alloc (.cells #[.slice A n1 cp, .int .i64 t, .int .i64 d, .slice AL n2 cl, .slice AC n3 cc] 32) = w0 at *
  have HS0 := hid' hs0
  have HU0 := hid' (USt.new_ w0)
  have hb1 := bel_alloc (bel_refl w0) (.cells #[.pointer none, .slice none 0 0] 64)
  have HL1 := hid' (bel_then HL0.out hb1)
  clear hs0 hb1 hw0
  refine (HCP.out _ HL1.out).mono ?_
  rintro e w2 ⟨rfl, hB2⟩
  have HU2 := hid' (HU0.out.below hB2)
  have HW := hid' (USt.str HU2.out (strOf C) (by show 0 + C.length ≤ _; omega))
  rw [List.nil_append, bL_str, HS0.out] at HW
  clear hB2
  go_wp2_with fail
  refine HW.out.mono ?_
  rintro e w3 ⟨⟨r3, rfl⟩, hU3⟩
  have c3 : w3.cell? ⟨w.heap.size, 3, none⟩ = some (.slice AL n2 cl) := by simpa using (HK.out.below hU3.2).cell 3
  have HU3 := hid' (show USt w0 w3 (C ++ logsL (lg.take 0)) by rw [List.take_zero]; simpa [logsL] using hU3)
  clear hU3
  go_wp2
  go_loopw [5, 15] (fun v5 v15 wr => ∃ k : Nat, k ≤ n2 ∧ v15 = .int .i64 k ∧ USt w0 wr (C ++ logsL (lg.take k))) (fun _ v15 _ => n2 - (intOf v15).toNat)
  case atStart => exact ⟨0, Nat.zero_le _, rfl, HU3.out⟩
  case round =>
    obtain ⟨k, hk, rfl, hU⟩ := hrel
    have HU := hid' hU
    have hlen := HLE.out k
    rw [List.length_take] at hlen
    by_cases hlt : k < n2
    · have hLr := bel_then HL0.out hU.2
      have hlt' : k < lg.length := by rw [← HN2.out]; exact hlt
      obtain ⟨ad, x, hA, hx, hcx⟩ := Rd.at_ (f := sV) (HLG.out.below hLr) hlt'
      subst hA
      have hxz := HZ.out x (List.mem_of_getElem? hx)
      have HQ := hid' (quote_Quote (strOf x) wr (by show x.length ≤ _; omega) (HT.out.below hLr).2.2.2.1 (HT.out.below hLr).2.2.2.2)
      have hll2 := logL_len hxz
      have HNX := hid' (logsL_take hx)
      change wr.cell? (ad.add k) = some (.string (strOf x)) at hcx
      obtain ⟨y, hy⟩ : ∃ y, y = strOf (quoteP (strOf x)) := ⟨_, rfl⟩
      have hyz : y.size ≤ 121000 := by
        rw [hy]; show (quoteP (strOf x)).length ≤ _
        have h1 := quoteP_len (strOf x)
        have h2 : (strOf x).size = x.length := by simp [strOf, ByteArray.size]
        omega
      have HLX := hid' (show (⟨#[108, 111, 103, 32]⟩ : ByteArray) ++ y ++ ⟨#[10]⟩ = strOf (logL x ++ [10]) from by
        rw [hy, show (⟨#[108, 111, 103, 32]⟩ : ByteArray) = strOf wLog from rfl, show (⟨#[10]⟩ : ByteArray) = strOf [10] from rfl, strN_app, strN_app]; rfl)
      rw [← hy] at HQ
      have h1 : 4 + y.size ≤ 9223372036854775807 := by omega
      have h2 : 4 + y.size + 1 ≤ 9223372036854775807 := by omega
      clear hx hU hlt' hLr hy c3
      go_wp2_with fail
      refine HQ.out.mono ?_
      rintro e' w4 ⟨rfl, hB4⟩
      have HU4 := hid' (HU.out.below hB4)
      have HW4 := hid' (USt.str HU4.out (strOf (logL x ++ [10])) (by show _ + (logL x ++ [10]).length ≤ _; simp only [List.length_append, List.length_singleton]; omega))
      rw [bL_str, HS0.out, ← HLX.out] at HW4
      clear hB4
      go_wp2_with fail
      refine HW4.out.mono ?_
      rintro e' w5 ⟨⟨r5, rfl⟩, hU5⟩
      go_wp2
      go_roundw
      case rel => exact ⟨k + 1, by omega, by go_num, by rw [HNX.out, ← List.append_assoc]; exact hU5⟩
      case measure => (simp only [intOf]; omega)
    · obtain rfl : k = n2 := by omega
      have hU' : USt w0 wr (C ++ logsL lg) := by
        have := HU.out
        rwa [List.take_of_length_le (by rw [← HN2.out]; exact Nat.le_refl _)] at this
      have hLs : (logsL lg).length ≤ 12001100 := by
        have h1 := HLE.out lg.length
        rw [List.take_length] at h1
        have := HN2.out
        omega
      have HU' := hid' (show USt w0 wr (C ++ logsL lg ++ chsL (ch.take 0)) by rw [List.take_zero]; simpa [chsL] using hU')
      have c4 : wr.cell? ⟨w.heap.size, 4, none⟩ = some (.slice AC n3 cc) := by simpa using (HK.out.below hU'.2).cell 4
      obtain ⟨D, hD⟩ : ∃ D, D = C ++ logsL lg := ⟨_, rfl⟩
      have hDl : D.length ≤ 12100000 := by rw [hD, List.length_append]; omega
      rw [← hD] at HU'
      have HD := hid' hD
      clear hU hU' hLs hlen c3 hD
      go_wp2
      go_loopw [7, 28] (fun v7 v28 wr => ∃ k : Nat, k ≤ n3 ∧ v28 = .int .i64 k ∧ USt w0 wr (D ++ chsL (ch.take k))) (fun _ v28 _ => n3 - (intOf v28).toNat)
      case atStart => exact ⟨0, Nat.zero_le _, rfl, HU'.out⟩
      case round =>
        obtain ⟨k, hk, rfl, hU⟩ := hrel
        have HU := hid' hU
        have hlen := HCE.out k
        rw [List.length_take] at hlen
        by_cases hlt : k < n3
        · have hLr := bel_then HL0.out hU.2
          have hlt' : k < ch.length := by rw [← HN3.out]; exact hlt
          obtain ⟨ad, cb, cn, hA, hx, d0, d1⟩ := RdS.at2 (HCH.out.below hLr) hlt'
          subst hA
          have hci := HCI.out _ (List.mem_of_getElem? hx)
          simp only at hci
          have hba := bel_alloc (bel_refl wr) (.cells #[.bool cb, .int .i64 cn] 52)
          have HQ := hid' (choice_Line cb cn _ hci (HT.out.below (bel_then hLr hba)).1)
          have HUa := hid' (hU.below hba)
          have HNX := hid' (chsL_take hx)
          have hll2 := lineL_len cb hci
          have hLS : lineS cb cn = strOf (lineL cb cn) := rfl
          rw [hLS] at HQ
          obtain ⟨y, hy⟩ : ∃ y, y = strOf (lineL cb cn) := ⟨_, rfl⟩
          have hyz : y.size ≤ 30 := by rw [hy]; exact hll2
          rw [← hy] at HQ
          have HLX := hid' (show y ++ ⟨#[10]⟩ = strOf (lineL cb cn ++ [10]) from by rw [hy, show (⟨#[10]⟩ : ByteArray) = strOf [10] from rfl, strN_app])
          have h1 : y.size + 1 ≤ 9223372036854775807 := by omega
          clear hx hU hlt' hLr hy c4 hba hci hLS
          go_wp2_with fail
          refine HQ.out.mono ?_
          rintro e' w4 ⟨rfl, hB4⟩
          have HU4 := hid' (HUa.out.below hB4)
          have HW4 := hid' (USt.str HU4.out (strOf (lineL cb cn ++ [10])) (by show _ + (lineL cb cn ++ [10]).length ≤ _; simp only [List.length_append, List.length_singleton]; omega))
          rw [bL_str, HS0.out, ← HLX.out] at HW4
          clear hB4
          go_wp2_with fail
          refine HW4.out.mono ?_
          rintro e' w5 ⟨⟨r5, rfl⟩, hU5⟩
          go_wp2
          go_roundw
          case rel => exact ⟨k + 1, by omega, by go_num, by rw [HNX.out, ← List.append_assoc]; exact hU5⟩
          case measure => (simp only [intOf]; omega)
        · obtain rfl : k = n3 := by omega
          have hU' : USt w0 wr (D ++ chsL ch) := by
            have := HU.out
            rwa [List.take_of_length_le (by rw [← HN3.out]; exact Nat.le_refl _)] at this
          have HU' := hid' hU'
          clear hU hU' c4
          go_wp2_with fail
          have HSG := USt.string HU'.out
          rw [HS0.out] at HSG
          refine HSG.mono ?_
          rintro e' w4 ⟨rfl, hU4⟩
          go_wp2
          go_ret
          exact ⟨by rw [HD.out]; rfl, bel_then HL0.out hU4.2⟩
end Go.Proofs.YtockkjhciojgbaaGreatDoor
