
/- THERE AND BACK: a script that can be told, in words, is read as it. -/
import Derived.Test.YtockkjhciojgbaaGreatDoorRepLaw
import Derived.Test.YtockkjhciojgbaaGreatDoorLawRepE
import Derived.Test.YtockkjhciojgbaaGreatDoorOpen
namespace Go.Proofs.YtockkjhciojgbaaGreatDoor
set_option maxRecDepth 100000
set_option linter.unusedSimpArgs false
open Go.RowKit
set_option linter.unusedVariables false
set_option linter.unusedSimpArgs false

def RRlC (w : World) (cs : List Value) (x : Rl) : Prop := cs.length = 5 ∧ (RInt .i64) w ((cs.drop 0).take 1) x.1 ∧ (RInt .i64) w ((cs.drop 1).take 1) x.2.1 ∧ (RInt .i64) w ((cs.drop 2).take 1) x.2.2.1 ∧ (RInt .i64) w ((cs.drop 3).take 1) x.2.2.2.1 ∧ (RInt .i64) w ((cs.drop 4).take 1) x.2.2.2.2
theorem RRlC.cells {w : World} {cs : List Value} {x : Rl} (h : RRlC w cs x) : cs = fRl x ∧ rlI x := by
  obtain ⟨hl, ⟨h1, w1⟩, ⟨h2, w2⟩, ⟨h3, w3⟩, ⟨h4, w4⟩, ⟨h5, w5⟩⟩ := h
  match cs, hl with
  | [a, b, c, d, e], _ =>
    simp at h1 h2 h3 h4 h5
    subst h1 h2 h3 h4 h5
    exact ⟨rfl, I64.of_wf w1, I64.of_wf w2, I64.of_wf w3, I64.of_wf w4, I64.of_wf w5⟩
def RChC (w : World) (cs : List Value) (x : Bool × Int) : Prop := cs.length = 2 ∧ RBool w ((cs.drop 0).take 1) x.1 ∧ (RInt .i64) w ((cs.drop 1).take 1) x.2
theorem RChC.cells {w : World} {cs : List Value} {x : Bool × Int} (h : RChC w cs x) : cs = fCh x ∧ I64 x.2 := by
  obtain ⟨hl, h1, ⟨h2, w2⟩⟩ := h
  match cs, hl with
  | [a, b], _ =>
    unfold RBool at h1
    simp at h1 h2
    subst h1 h2
    exact ⟨rfl, I64.of_wf w2⟩
def RCfgC (w : World) (cs : List Value) (x : List Rl × Int × Int) : Prop := cs.length = 3 ∧ (RSl 5 RRlC) w ((cs.drop 0).take 1) x.1 ∧ (RInt .i64) w ((cs.drop 1).take 1) x.2.1 ∧ (RInt .i64) w ((cs.drop 2).take 1) x.2.2
def RCase (w : World) (cs : List Value) (x : (List Rl × Int × Int) × List ByteArray × List (Bool × Int)) : Prop := cs.length = 5 ∧ RCfgC w ((cs.drop 0).take 3) x.1 ∧ (RSl 1 RStr) w ((cs.drop 3).take 1) x.2.1 ∧ (RSl 2 RChC) w ((cs.drop 4).take 1) x.2.2
theorem RCase.open_ {w : World} {cs : Array Value} {l : List Rl} {t d : Int} {lg : List ByteArray} {ch : List (Bool × Int)} (h : RCase w cs.toList ((l, t, d), lg, ch)) :
    ∃ A c AL cl AC cc, cs = #[.slice A l.length c, .int .i64 t, .int .i64 d, .slice AL lg.length cl, .slice AC ch.length cc] ∧ RdS w A 5 fRl l ∧ (∀ r ∈ l, rlI r) ∧ I64 t ∧ I64 d ∧ Rd w AL (lg.map .string) ∧ RdS w AC 2 fCh ch ∧ (∀ c ∈ ch, I64 c.2) ∧ l.length ≤ maxLen ∧ lg.length ≤ maxLen ∧ ch.length ≤ maxLen ∧ lg.length ≤ cl ∧ ch.length ≤ cc := by
  obtain ⟨hl, ⟨hl3, ⟨A, c, h1, hle1, hcm1, hrow1⟩, ⟨h2, w2⟩, ⟨h3, w3⟩⟩, ⟨AL, cl, h4, hle4, hcm4, hrow4⟩, ⟨AC, cc, h5, hle5, hcm5, hrow5⟩⟩ := h
  obtain ⟨cl5⟩ := cs
  match cl5, hl with
  | [a, b, e, f, g], _ =>
    simp at h1 h2 h3 h4 h5
    subst h1 h2 h3 h4 h5
    refine ⟨A, c, AL, cl, AC, cc, rfl, fun j y hj => ?_, fun r hr => ?_, I64.of_wf w2, I64.of_wf w3, fun j u hj => ?_, fun j y hj => ?_, fun r hr => ?_, Nat.le_trans hle1 hcm1, Nat.le_trans hle4 hcm4, Nat.le_trans hle5 hcm5, hle4, hle5⟩
    · obtain ⟨ad, row, e, ha, hl, hc⟩ := hrow1 j y hj
      obtain ⟨rfl, _⟩ := ha.cells
      exact ⟨ad, e, rfl, hc⟩
    · obtain ⟨j, hj⟩ := List.getElem?_of_mem hr
      obtain ⟨ad, row, e, ha, hl, hc⟩ := hrow1 j r hj
      exact ha.cells.2
    · rw [List.getElem?_map] at hj
      cases hx : lg[j]? with
      | none => rw [hx] at hj; cases hj
      | some x =>
        rw [hx] at hj
        have hu : Value.string x = u := Option.some.inj hj
        subst hu
        obtain ⟨ad, row, e, ha, hl, hc⟩ := hrow4 j x hx
        obtain ⟨rfl, _⟩ := ha
        exact ⟨ad, e, by have := hc 0 (.string x) rfl; rw [Nat.mul_one] at this; rw [add_add'] at this; exact this⟩
    · obtain ⟨ad, row, e, ha, hl, hc⟩ := hrow5 j y hj
      obtain ⟨rfl, _⟩ := ha.cells
      exact ⟨ad, e, rfl, hc⟩
    · obtain ⟨j, hj⟩ := List.getElem?_of_mem hr
      obtain ⟨ad, row, e, ha, hl, hc⟩ := hrow5 j r hj
      exact ha.cells.2
theorem sV_bL (lg : List ByteArray) : (lg.map bL).map sV = lg.map Value.string := by rw [List.map_map]; rfl
/-- a script's text: its size, its lines -/
theorem script_lines {l : List Rl} {t d : Int} {lg : List (List UInt8)} {ch : List (Bool × Int)} (hI : ∀ r ∈ l, rlI r) (ho : ∀ r ∈ l, rlO r = true) (hci : ∀ x ∈ ch, I64 x.2) :
    spl 10 (scriptL l t d lg ch) = (lnsOf l t d ++ lg.map logL ++ ch.map fun x => lineL x.1 x.2) ++ [[]] := by
  rw [scriptL_unl hI ho]
  refine spl_unl ?_
  intro x hx
  rcases List.mem_append.1 hx with hx | hx
  · rcases List.mem_append.1 hx with hx | hx
    · exact lnsOf_no hI ho x hx
    · obtain ⟨y, _, rfl⟩ := List.mem_map.1 hx
      exact log_no10 y
  · obtain ⟨y, _, rfl⟩ := List.mem_map.1 hx
    exact choice_no10 _ _
theorem logsL_len4 {lg : List (List UInt8)} (h : ∀ x ∈ lg, x.length ≤ 400) : (logsL lg).length ≤ 4807 * lg.length := by
  induction lg with
  | nil => simp [logsL]
  | cons x l ih =>
    have h0 := h x (List.mem_cons_self ..)
    have h2 := ih (fun y hy => h y (List.mem_cons_of_mem _ hy))
    have h1 := quoteP_len ⟨x.toArray⟩
    have h3 : (⟨x.toArray⟩ : ByteArray).size = x.length := by simp [ByteArray.size]
    have hw : wLog.length = 4 := rfl
    unfold logsL logL at h2 ⊢
    simp only [List.flatMap_cons, List.length_append, List.length_cons, List.length_nil] at h2 ⊢
    omega
theorem scriptL_len {l : List Rl} {t d : Int} {lg : List (List UInt8)} {ch : List (Bool × Int)} (hI : ∀ r ∈ l, rlI r) (ht : I64 t) (hd : I64 d) (hz : ∀ x ∈ lg, x.length ≤ 400) (hci : ∀ x ∈ ch, I64 x.2) : (scriptL l t d lg ch).length ≤ 60 + 60 * l.length + 4807 * lg.length + 31 * ch.length := by
  rw [scriptL_eq, List.length_append, List.length_append]
  have h1 := cfgL_len hI ht hd
  have h2 := logsL_len4 hz
  have h3 := chsL_len hci
  omega
theorem script_line_len {l : List Rl} {t d : Int} {lg : List (List UInt8)} {ch : List (Bool × Int)} (hI : ∀ r ∈ l, rlI r) (ho : ∀ r ∈ l, rlO r = true) (ht : I64 t) (hd : I64 d) (hz : ∀ x ∈ lg, x.length ≤ 400) (hci : ∀ x ∈ ch, I64 x.2) :
    ∀ x ∈ lnsOf l t d ++ lg.map logL ++ ch.map (fun x => lineL x.1 x.2), x.length ≤ 5000 := by
  intro x hx
  rcases List.mem_append.1 hx with hx | hx
  · rcases List.mem_append.1 hx with hx | hx
    · unfold lnsOf at hx
      rcases List.mem_cons.1 hx with rfl | hx
      · have h1 := itoa_len ht
        have h2 := itoa_len hd
        unfold hdOf wordsL
        simp only [List.flatMap_cons, List.flatMap_nil, List.length_append, List.length_cons, List.append_nil]
        have hw : wSource.length = 6 := rfl
        omega
      · obtain ⟨r, hr, rfl⟩ := List.mem_map.1 hx
        have h1 := rlL_len (hI r hr)
        unfold lnOf
        rw [List.length_dropLast]
        omega
    · obtain ⟨y, hy, rfl⟩ := List.mem_map.1 hx
      unfold logL
      have h1 := quoteP_len ⟨y.toArray⟩
      have h2 : (⟨y.toArray⟩ : ByteArray).size = y.length := by simp [ByteArray.size]
      have h3 := hz y hy
      rw [List.length_append]
      have hw : wLog.length = 4 := rfl
      omega
  · obtain ⟨y, hy, rfl⟩ := List.mem_map.1 hx
    have := lineL_len y.1 (hci y hy)
    omega
set_option maxHeartbeats 16000000 in
theorem reportBack (cs : Array Value) (x : (List Rl × Int × Int) × List ByteArray × List (Bool × Int)) (w : World) (hc : RCase w cs.toList x) (hP : PowT w) (hE : ErV w) (hM : MaxT w) (hU : U8T w) (hZ : TzT w) :
    Calls Tryz.prog 4 #[.agg cs] w fun e w' => e = .returned (.bool true) ∧ Below w.heap.size w w' := by
  have hT : TabT w := ⟨hP, hE, hM, hU, hZ⟩
  obtain ⟨⟨l, t, d⟩, lgB, ch⟩ := x
  obtain ⟨A, cp, AL, cl, AC, cc, rfl, hr, hI, ht, hd, hlog, hch, hci, hlm, hlgm, hchm, -, -⟩ := hc.open_
  rw [← sV_bL] at hlog
  have hlen : lgB.length = (lgB.map bL).length := by simp
  rw [hlen] at hlgm ⊢
  clear hlen hc
  generalize lgB.map bL = lg at *
  have HT := hid' hT
  have HSP := hid' (speaks26 w hT)
  have hba := bel_alloc (bel_refl w) (.cells #[.slice A l.length cp, .int .i64 t, .int .i64 d, .slice AL lg.length cl, .slice AC ch.length cc] 34)
  have HB0 := hid' hba
  have HK0 := hid' (Blk.new_ w 34 #[.slice A l.length cp, .int .i64 t, .int .i64 d, .slice AL lg.length cl, .slice AC ch.length cc])
  have HSM := hid' (fun W (h : Below w.heap.size w W) => law23_Small A AL AC cp cl cc l.length ch.length t d lg W (hlog.below h))
  have HTD := hid' (fun W (h : Below w.heap.size w W) (hl : l.length ≤ 1000000) => law26_told A AL AC cp cl cc lg.length ch.length t d l W (hr.below h) hl)
  have HSPK := hid' (fun W (h : Below w.heap.size w W) => speaks26 W (hT.below h))
  have HPR := hid' (fun W (h : Below w.heap.size w W) h1 h2 h3 h4 => report_Print A AL AC cp cl cc t d l lg ch W (hr.below h) (hlog.below h) (hch.below h) h1 h2 h3 hI ht hd h4 hci (hT.below h))
  have HPL := hid' (fun W (h : Below w.heap.size w W) h1 h2 h3 h4 => law26_print A AL AC cp cl cc t d l lg ch W (hr.below h) (hlog.below h) (hch.below h) h1 h2 h3 hI ht hd h4 hci)
  have HSA := hid' (fun A' AL' AC' cp' cl' cc' W (h : Below w.heap.size w W) (k1 : RdS W A' 5 fRl l) (k2 : Rd W AL' (lg.map sV)) (k3 : RdS W AC' 2 fCh ch) h1 h2 h3 => law26_same A' A AL' AL AC' AC cp' cp cl' cl cc' cc t d l lg ch W k1 (hr.below h) k2 (hlog.below h) k3 (hch.below h) h1 h2 h3)
  have HI := hid' (And.intro hI (And.intro ht (And.intro hd hci)))
  clear hba hr hI ht hd hlog hch hci hT hP hE hM hU hZ hlm hlgm hchm
  cases hsm : smallN l.length lg ch.length with
  | false =>
    rw [hsm] at HSM
    clear hsm
    go_enter Tryz.func4, Tryz.ntmps4
    go_wp2_with fail
    generalize w.alloc (.cells #[.slice A l.length cp, .int .i64 t, .int .i64 d, .slice AL lg.length cl, .slice AC ch.length cc] 34) = w0 at *
    refine (HSPK.out w0 HB0.out).mono ?_
    rintro e w1 ⟨rfl, hB1⟩
    have HB1 := hid' (bel_then HB0.out hB1)
    have HK1 := hid' (HK0.out.below hB1)
    have d0 := HK1.out.cell 0
    have d1 := HK1.out.cell 1
    have d2 := HK1.out.cell 2
    have d3 := HK1.out.cell 3
    have d4 := HK1.out.cell 4
    clear hB1
    go_wp2_with fail
    refine (HSM.out w1 HB1.out).mono ?_
    rintro e w2 ⟨rfl, hB2⟩
    have HB2 := hid' (bel_then HB1.out hB2)
    clear hB2
    go_wp2
    go_ret
    exact ⟨rfl, HB2.out⟩
  | true =>
    have hsm2 := hsm
    unfold smallN at hsm2
    simp only [Bool.and_eq_true, decide_eq_true_eq, List.all_eq_true] at hsm2
    obtain ⟨⟨⟨hg8, hc120⟩, hr5⟩, hg4⟩ := hsm2
    rw [hsm] at HSM
    cases htd : (l.all rlO && decide (l.length < 100)) with
    | false =>
      rw [htd] at HTD
      clear hsm htd
      go_enter Tryz.func4, Tryz.ntmps4
      go_wp2_with fail
      generalize w.alloc (.cells #[.slice A l.length cp, .int .i64 t, .int .i64 d, .slice AL lg.length cl, .slice AC ch.length cc] 34) = w0 at *
      refine (HSPK.out w0 HB0.out).mono ?_
      rintro e w1 ⟨rfl, hB1⟩
      have HB1 := hid' (bel_then HB0.out hB1)
      have HK1 := hid' (HK0.out.below hB1)
      have d0 := HK1.out.cell 0
      have d1 := HK1.out.cell 1
      have d2 := HK1.out.cell 2
      have d3 := HK1.out.cell 3
      have d4 := HK1.out.cell 4
      clear hB1
      go_wp2_with fail
      refine (HSM.out w1 HB1.out).mono ?_
      rintro e w2 ⟨rfl, hB2⟩
      have HB2 := hid' (bel_then HB1.out hB2)
      have HK2 := hid' (HK1.out.below hB2)
      clear d0 d1 d2 d3 d4
      have d0 := HK2.out.cell 0
      have d1 := HK2.out.cell 1
      have d2 := HK2.out.cell 2
      have d3 := HK2.out.cell 3
      have d4 := HK2.out.cell 4
      clear hB2
      go_wp2_with fail
      refine (HTD.out w2 HB2.out (by omega)).mono ?_
      rintro e w3 ⟨rfl, hB3⟩
      have HB3 := hid' (bel_then HB2.out hB3)
      clear hB3
      go_wp2
      go_ret
      exact ⟨rfl, HB3.out⟩
    | true =>
      have htd2 := htd
      simp only [Bool.and_eq_true, decide_eq_true_eq, List.all_eq_true] at htd2
      obtain ⟨ho, hl100⟩ := htd2
      rw [htd] at HTD
      obtain ⟨hI, ht, hd, hci⟩ := HI.out
      have hsl := script_lines (t := t) (d := d) (lg := lg) hI ho hci
      have hll := script_line_len (lg := lg) hI ho ht hd hg4 hci
      obtain ⟨p, hp⟩ := script_read hI ho ht hd lg ch hci
      have hsz := scriptL_len hI ht hd hg4 hci
      have hsz2 : (scriptL l t d lg ch).length ≤ 1000000 := by omega
      have hspl : (spl 10 (scriptL l t d lg ch)).length ≤ 10000 := by
        rw [hsl]
        unfold lnsOf
        simp only [List.length_append, List.length_cons, List.length_map, List.length_nil]
        omega
      have hsz3 : ∀ x ∈ spl 10 (scriptL l t d lg ch), x.length ≤ 10000 := by
        intro x hx
        rw [hsl] at hx
        rcases List.mem_append.1 hx with hx | hx
        · have := hll x hx; omega
        · rw [List.mem_singleton] at hx; subst hx; simp
      have HPA := hid' (fun W (h : Below w.heap.size w W) => report_Parse (strOf (scriptL l t d lg ch)) W (by show (scriptL l t d lg ch).length ≤ _; exact hsz2) (by rw [bL_str]; exact hspl) (by rw [bL_str]; exact hsz3) (HT.out.below h))
      rw [bL_str, hp] at HPA
      have hl10 : l.length ≤ 1000 := by omega
      have hzz : ∀ x ∈ lg, x.length ≤ 10000 := fun x hx => by have := hg4 x hx; omega
      have HPR2 := hid' (fun W h => HPR.out W h hl10 (by omega) (by omega) hzz)
      have HPL2 := hid' (fun W h => HPL.out W h hl10 (by omega) (by omega) hzz)
      have HSA2 := hid' (fun A' AL' AC' cp' cl' cc' W h k1 k2 k3 => HSA.out A' AL' AC' cp' cl' cc' W h k1 k2 k3 (by omega) (by omega) (by omega))
      have hr6 : l.length ≤ 1000000 := by omega
      obtain ⟨S, hS⟩ : ∃ S, S = strOf (scriptL l t d lg ch) := ⟨_, rfl⟩
      rw [← hS] at HPA HPR2 HPL2
      clear hsm htd ho hl100 hI ht hd hci hsl hll hp hsz hsz2 hspl hsz3 HI hg8 hc120 hr5 hg4 hl10 hzz hS HPR HPL HSA
      go_enter Tryz.func4, Tryz.ntmps4
      go_wp2_with fail
      generalize w.alloc (.cells #[.slice A l.length cp, .int .i64 t, .int .i64 d, .slice AL lg.length cl, .slice AC ch.length cc] 34) = w0 at *
      refine (HSPK.out w0 HB0.out).mono ?_
      rintro e w1 ⟨rfl, hB1⟩
      have HB1 := hid' (bel_then HB0.out hB1)
      have HK1 := hid' (HK0.out.below hB1)
      have d0 := HK1.out.cell 0
      have d1 := HK1.out.cell 1
      have d2 := HK1.out.cell 2
      have d3 := HK1.out.cell 3
      have d4 := HK1.out.cell 4
      clear hB1
      go_wp2_with fail
      refine (HSM.out w1 HB1.out).mono ?_
      rintro e w2 ⟨rfl, hB2⟩
      have HB2 := hid' (bel_then HB1.out hB2)
      have HK2 := hid' (HK1.out.below hB2)
      clear d0 d1 d2 d3 d4
      have d0 := HK2.out.cell 0
      have d1 := HK2.out.cell 1
      have d2 := HK2.out.cell 2
      have d3 := HK2.out.cell 3
      have d4 := HK2.out.cell 4
      clear hB2
      go_wp2_with fail
      refine (HTD.out w2 HB2.out hr6).mono ?_
      rintro e w3 ⟨rfl, hB3⟩
      have HB3 := hid' (bel_then HB2.out hB3)
      have HK3 := hid' (HK2.out.below hB3)
      clear d0 d1 d2 d3 d4
      have d0 := HK3.out.cell 0
      have d1 := HK3.out.cell 1
      have d2 := HK3.out.cell 2
      have d3 := HK3.out.cell 3
      have d4 := HK3.out.cell 4
      clear hB3
      go_wp2_with fail
      refine (HPR2.out w3 HB3.out).mono ?_
      rintro e w4 ⟨rfl, hB4⟩
      have HB4 := hid' (bel_then HB3.out hB4)
      have HK4 := hid' (HK3.out.below hB4)
      clear d0 d1 d2 d3 d4 hB4
      go_wp2_with fail
      refine (HPA.out w4 HB4.out).mono ?_
      rintro e w5 ⟨hP, hB5⟩
      obtain ⟨cA, cq, lA, lq, kA, kq, rfl, k1, k2, k3⟩ := hP
      dsimp only at k1 k2 k3 ⊢
      have hba := bel_alloc hB5 (.cells #[.slice cA l.length cq, .int .i64 t, .int .i64 d, .slice lA lg.length lq, .slice kA ch.length kq] 32)
      have hb6 := bel_alloc (bel_refl w5) (.cells #[.slice cA l.length cq, .int .i64 t, .int .i64 d, .slice lA lg.length lq, .slice kA ch.length kq] 32)
      have HB6 := hid' (bel_then HB4.out hba)
      have HK6 := hid' (HK4.out.below hba)
      have HJ6 := hid' (Blk.new_ w5 32 #[.slice cA l.length cq, .int .i64 t, .int .i64 d, .slice lA lg.length lq, .slice kA ch.length kq])
      have HX1 := hid' (k1.below hb6)
      have HX2 := hid' (k2.below hb6)
      have HX3 := hid' (k3.below hb6)
      have d0 := HK6.out.cell 0
      have d1 := HK6.out.cell 1
      have d2 := HK6.out.cell 2
      have d3 := HK6.out.cell 3
      have d4 := HK6.out.cell 4
      have hne : w.heap.size ≠ w5.heap.size := by have := (HK4.out.below hB5).lt; omega
      clear hB5 hba hb6 k1 k2 k3
      go_wp2_with fail
      generalize hcb : w5.heap.size = cb at *
      generalize w5.alloc (.cells #[.slice cA l.length cq, .int .i64 t, .int .i64 d, .slice lA lg.length lq, .slice kA ch.length kq] 32) = w6 at *
      clear hcb d0 d1 d2 d3 d4
      refine (HPL2.out w6 HB6.out).mono ?_
      rintro e w7 ⟨rfl, hB7⟩
      have HB7 := hid' (bel_then HB6.out hB7)
      have HK7 := hid' (HK6.out.below hB7)
      have HJ7 := hid' (HJ6.out.below hB7)
      have HY1 := hid' (HX1.out.below hB7)
      have HY2 := hid' (HX2.out.below hB7)
      have HY3 := hid' (HX3.out.below hB7)
      have d0 := HK7.out.cell 0
      have d1 := HK7.out.cell 1
      have d2 := HK7.out.cell 2
      have d3 := HK7.out.cell 3
      have d4 := HK7.out.cell 4
      have j0 := HJ7.out.cell 0
      have j1 := HJ7.out.cell 1
      have j2 := HJ7.out.cell 2
      have j3 := HJ7.out.cell 3
      have j4 := HJ7.out.cell 4
      clear hB7
      go_wp2_with fail
      refine (HSA2.out cA lA kA cq lq kq w7 HB7.out HY1.out HY2.out HY3.out).mono ?_
      rintro e w8 ⟨rfl, hB8⟩
      have HB8 := hid' (bel_then HB7.out hB8)
      clear hB8
      go_wp2
      go_ret
      exact ⟨rfl, HB8.out⟩
end Go.Proofs.YtockkjhciojgbaaGreatDoor
