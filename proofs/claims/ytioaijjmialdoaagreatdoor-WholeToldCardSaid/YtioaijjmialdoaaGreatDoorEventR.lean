
/- The event of a line (event.Read), walked. No condition but the tables and variables of Go's own library. -/
import Derived.Test.YtioaijjmialdoaaGreatDoorEventL
import Derived.Test.YtioaijjmialdoaaGreatDoorPackQ
import Derived.Test.YtioaijjmialdoaaGreatDoorTabsQB
namespace Go.Proofs.YtioaijjmialdoaaGreatDoor
set_option maxRecDepth 100000
set_option linter.unusedSimpArgs false
open Go.RowKit
set_option linter.unusedVariables false
set_option linter.unusedSimpArgs false

theorem splitNW (s : ByteArray) (w : World) (hs : s.size ≤ 100000) (hM : MaxT w) :
    ∃ (T : List ByteArray) (cp : Nat), T.map bL = splN 32 3 (bL s) ∧ 1 ≤ T.length ∧ T.length ≤ 4 ∧ T.length ≤ cp ∧ (∀ x ∈ T, x.size ≤ s.size) ∧
      Calls Tryz.prog 24 #[.string s, .string ⟨#[32]⟩, .int .i64 4] w fun e w' => e = .returned (.slice (some ⟨w.heap.size, 0, none⟩) T.length cp) ∧ Rd w' (some ⟨w.heap.size, 0, none⟩) (T.map .string) ∧ Below w.heap.size w w' := by
  obtain ⟨m, hm⟩ := hM
  have h := Tryz.strings_SplitN s ⟨#[32]⟩ 4 m w (by omega) hm (by show 1 ≤ 1; omega) (by omega) (by omega)
  obtain ⟨T, hT⟩ : ∃ T, T = Lib.splitB ⟨#[32]⟩ 0 (min 4 (s.size + 1) - 1) s := ⟨_, rfl⟩
  rw [← hT] at h
  have hd : T.map bL = splN 32 3 (bL s) := by
    rw [hT, ← splitN_N]
    have := Lib.splitB_data ⟨#[32]⟩ 0 (min 4 (s.size + 1) - 1) s
    unfold Lib.splitN
    rw [bL_len]
    exact this
  have hle : T.length ≤ min 4 (s.size + 1) := by
    have := Lib.splitB_length_le ⟨#[32]⟩ 0 (min 4 (s.size + 1) - 1) s
    rw [← hT] at this
    omega
  have h1 : 1 ≤ T.length := by
    have hne := splN_ne 32 3 (bL s)
    rw [← hd] at hne
    cases T with
    | nil => exact absurd rfl hne
    | cons x T => simp
  refine ⟨T, _, hd, h1, by omega, hle, ?_, h.mono fun e w' ⟨he, hw⟩ => ⟨he, ?_, ?_⟩⟩
  · intro x hx
    have hmem : bL x ∈ splN 32 3 (bL s) := by rw [← hd]; exact List.mem_map_of_mem hx
    have hall : ∀ (k : Nat) (l : List UInt8), ∀ y ∈ splN 32 k l, y.length ≤ l.length := by
      intro k
      induction k with
      | zero => intro l y hy; simp [splN] at hy; rw [hy]; exact Nat.le_refl _
      | succ k ih =>
        intro l y hy
        unfold splN at hy
        split at hy
        · have hc := cutS_le 32 l
          rcases List.mem_cons.1 hy with rfl | hy
          · exact hc.1
          · exact Nat.le_trans (ih _ y hy) hc.2
        · rw [List.mem_singleton] at hy; rw [hy]; exact Nat.le_refl _
    have := hall _ _ _ hmem
    rw [bL_len, bL_len] at this
    exact this
  · subst hw
    intro j u hj
    refine ⟨_, rfl, ?_⟩
    have hjl : j < (T.map Value.string).length := (List.getElem?_eq_some_iff.1 hj).1
    have hc := (Blk.new_ w 9 (Lib.cellsOf T (min 4 (s.size + 1)))).cell j
    have hcc : (Lib.cellsOf T (min 4 (s.size + 1)))[j]? = some u := by
      unfold Lib.cellsOf
      rw [List.getElem?_toArray, List.getElem?_append_left hjl]; exact hj
    rw [hcc] at hc
    rw [show (⟨w.heap.size, 0, none⟩ : Addr).add j = ⟨w.heap.size, j, none⟩ by unfold Addr.add; split <;> simp_all]
    exact hc
  · subst hw; exact bel_alloc (bel_refl w) _
def evO (o : Option Ev) : Value := match o with | some e => evV e | none => .nilIface
theorem beqF {a : ByteArray} {l : List UInt8} (h : ¬ a = strOf l) : (a.toList == l) = false := by
  rw [beq_eq_false_iff_ne]
  intro e
  rw [ByteArray.toList_eq] at e
  exact h (bL_inj e)
theorem beqT {a : ByteArray} {l : List UInt8} (h : a = strOf l) : a.toList = l := by rw [h]; exact ByteArray.toList_eq _
theorem strOf_bL (a : ByteArray) (l : List UInt8) : (bL a = l) = (a = strOf l) := propext ⟨fun h => bL_inj (by rw [h, bL_str]), fun h => by rw [h]; exact bL_str l⟩
set_option maxHeartbeats 16000000 in
theorem event_Read (s : ByteArray) (w : World) (hs : s.size ≤ 40000) (hP : PowT w) (hE : ErV w) (hM : MaxT w) (hT : U8T w) (hZ : TzT w) :
    Calls Tryz.prog 14 #[.string s] w fun e w' => e = .returned (.tuple #[evO (readE (bL s)), .bool (readE (bL s)).isSome]) ∧ Below w.heap.size w w' := by
  have HP := hid' hP
  have HE := hid' hE
  have HTT := hid' hT
  have HZ := hid' hZ
  have HM := hid' hM
  have HCUT := hid' (fun W hM => cutW 32 s ⟨#[32]⟩ W rfl (by omega) hM)
  have hcl := cutS_le 32 (bL s)
  rw [bL_len] at hcl
  obtain ⟨a, ha⟩ : ∃ a, a = strOf (cutS 32 (bL s)).1 := ⟨_, rfl⟩
  obtain ⟨b, hb⟩ : ∃ b, b = strOf (cutS 32 (bL s)).2.1 := ⟨_, rfl⟩
  have hro : readE (bL s) = readW (bL a) (splN 32 3 (bL b)) := by rw [ha, hb, bL_str, bL_str]; rfl
  have hbz : b.size ≤ 40000 := by rw [hb]; show (cutS 32 (bL s)).2.1.length ≤ _; omega
  obtain ⟨o, ho⟩ : ∃ o, o = readE (bL s) := ⟨_, rfl⟩
  rw [← ho] at hro ⊢
  rw [← ha, ← hb] at HCUT
  clear hcl ho hP hE hT hZ hM ha hb
  generalize (cutS 32 (bL s)).2.2 = f at *
  go_enter Tryz.func14, Tryz.ntmps14
  go_wp2_with fail
  refine (HCUT.out _ HM.out).mono ?_
  rintro e w1 ⟨rfl, hB1⟩
  obtain ⟨T, cp, hTd, hT1, hT4, hTc, hTz, hC⟩ := splitNW b w1 (by omega) (HM.out.below hB1)
  have HL1 := hid' hB1
  have HC := hid' hC
  rw [← hTd] at hro
  clear hB1 hTd hC HCUT
  go_wp2_with fail
  refine HC.out.mono ?_
  rintro e w2 ⟨rfl, hrd, hB2⟩
  have HL2 := hid' (bel_then HL1.out hB2)
  have HRD := hid' hrd
  have HP2 := hid' (HP.out.below HL2.out)
  have HE2 := hid' (HE.out.below HL2.out)
  have HTZ := hid' (show ∀ x ∈ T, x.size ≤ 40000 from fun x hx => Nat.le_trans (hTz x hx) hbz)
  clear hB2 hrd HC hTz hbz
  generalize w1.heap.size = g at *
  unfold readW at hro
  simp only [strOf_bL, List.length_map] at hro
  by_cases hw : (a = strOf wElement ∨ a = strOf wLate) ∧ T.length = 4
  · obtain ⟨hw1, h4⟩ := hw
    match T, h4 with
    | [x0, x1, x2, x3], _ =>
      rw [if_pos ⟨hw1, rfl⟩] at hro
      have hok3 : (([x0, x1, x2, x3].map bL).take 3).all wOk = numsOk [x0, x1, x2] := by unfold numsOk rdOk wOk; rfl
      rw [hok3] at hro
      have hro' : o = if numsOk [x0, x1, x2] = true then (match unqP (bL x3) with | some x => some (Ev.elem (rdV x0) (rdV x1) (rdV x2) ⟨x.toArray⟩ (decide (a = strOf wLate))) | none => none) else none := hro
      have hcut := cut_h (P := Tryz.prog) 48 9 1 Tryz.underlying48 (by kernel_rfl) (some ⟨g, 0, none⟩) 4 cp 3 (by simpa using Nat.le_trans (by omega) hTc)
      have hR3 : Rd w2 (some ⟨g, 0, none⟩) ([x0, x1, x2].map .string) := fun j u hj => HRD.out j u (by
        have hjl : j < ([x0, x1, x2].map Value.string).length := (List.getElem?_eq_some_iff.1 hj).1
        show (([x0, x1, x2].map Value.string) ++ [.string x3])[j]? = some u
        rw [List.getElem?_append_left hjl]; exact hj)
      have HN := hid' (config_Numbers (some ⟨g, 0, none⟩) cp [x0, x1, x2] w2 hR3 (by simp) (fun x hx => Nat.le_trans (HTZ.out x (by simp at hx ⊢; rcases hx with rfl | rfl | rfl <;> simp)) (by omega)) HP2.out HE2.out)
      have hq3 := HTZ.out x3 (by simp)
      have HQ := hid' (fun W hT hZ hE => quote_Unquote x3 W hq3 hT hZ hE)
      have hm3 : w2.cell? ⟨g, 3, none⟩ = some (.string x3) := by
        obtain ⟨ad, e, hc⟩ := HRD.out 3 (.string x3) rfl
        cases e
        simpa [Addr.add] using hc
      have HM3 := hid' hm3
      clear hro hok3 hR3 hq3 hm3 hT1 hT4
      have hword : (a.toList = [101, 108, 101, 109, 101, 110, 116] ∧ decide (a = strOf wLate) = false) ∨ (a.toList = [108, 97, 116, 101] ∧ decide (a = strOf wLate) = true) := by
        rcases hw1 with h | h
        · refine .inl ⟨beqT h, ?_⟩
          rw [decide_eq_false_iff_not, h]
          intro e
          have := congrArg bL e
          rw [bL_str, bL_str] at this
          exact absurd this (by decide)
        · exact .inr ⟨beqT h, by simpa using h⟩
      clear hw1
      rcases hword with ⟨hat, hl⟩ | ⟨hat, hl⟩
      all_goals
        rw [hl] at hro'
        clear hl
        have HRO := hid' hro'
        clear hro'
        go_wp2_with fail
        refine HN.out.mono ?_
        rintro e w3 ⟨hcase, hB3⟩
        have HL3 := hid' (bel_then HL2.out hB3)
        have m3 : w3.cell? ⟨g, 3, none⟩ = some (.string x3) := (hB3.cell (World.block_lt_of_cell? w2 _ HM3.out)).trans HM3.out
        clear hB3 hcut
        rcases hcase with ⟨hk, v, rfl, hown⟩ | ⟨hk, rfl⟩
        · obtain ⟨A, c, rfl, hc1, hc2, hrd⟩ := own_rd hown
          have HRD3 := hid' hrd
          clear hown hrd
          have hro := HRO.out
          rw [if_pos hk] at hro
          have HRO2 := hid' hro
          clear hro hk
          go_wp2_with fail
          refine (HQ.out w3 (HTT.out.below HL3.out) (HZ.out.below HL3.out) (HE.out.t.below HL3.out)).mono ?_
          rintro e w4 ⟨rfl, hB4⟩
          have HL4 := hid' (bel_then HL3.out hB4)
          have hrd4 := HRD3.out.below hB4
          obtain ⟨ad, hA, n0⟩ := hrd4 0 (.int .i64 (rdV x0)) rfl
          obtain ⟨ad1, hA1, n1⟩ := hrd4 1 (.int .i64 (rdV x1)) rfl
          obtain ⟨ad2, hA2, n2⟩ := hrd4 2 (.int .i64 (rdV x2)) rfl
          subst hA
          cases hA1
          cases hA2
          change w4.cell? ad = _ at n0
          change w4.cell? ⟨ad.block, ad.off + 1, none⟩ = _ at n1
          change w4.cell? ⟨ad.block, ad.off + 2, none⟩ = _ at n2
          have hro := HRO2.out
          clear hB4 m3 hrd4
          generalize rdV x0 = y0 at *
          generalize rdV x1 = y1 at *
          generalize rdV x2 = y2 at *
          cases hu : unqP (bL x3) with
          | none =>
            rw [hu] at hro
            simp only at hro
            subst hro
            go_wp2
            go_ret2
            exact ⟨rfl, HL4.out⟩
          | some x =>
            rw [hu] at hro
            simp only at hro
            subst hro
            have hus : uS (some x) = strOf x := rfl
            have hub : uB (some x) = true := rfl
            rw [hus, hub]
            clear hus hub hu
            go_wp2_with fail
            go_quiet (fail)
            all_goals
              go_wp2
              go_ret2
              exact ⟨rfl, by first | exact HL4.out | exact bel_drewN HL4.out _⟩
        · have hro := HRO.out
          rw [hk] at hro
          have hro2 : o = none := by rw [hro]; simp
          subst hro2
          clear hro hk
          go_wp2_with fail
          refine (HQ.out w3 (HTT.out.below HL3.out) (HZ.out.below HL3.out) (HE.out.t.below HL3.out)).mono ?_
          rintro e w4 ⟨rfl, hB4⟩
          have HL4 := hid' (bel_then HL3.out hB4)
          clear hB4 m3
          go_wp2
          go_ret2
          exact ⟨rfl, HL4.out⟩
  · rw [if_neg hw] at hro
    have hR : Rd w2 (some ⟨g, 0, none⟩) (T.map .string) := HRD.out
    have HN := hid' (config_Numbers (some ⟨g, 0, none⟩) cp T w2 hR (by omega) (fun x hx => Nat.le_trans (HTZ.out x hx) (by omega)) HP2.out HE2.out)
    have hnums : (T.map bL).all wOk = numsOk T := by unfold numsOk; rw [List.all_map]; rfl
    have h0 : T.length ≠ 0 := by omega
    have hgd : wV ((T.map bL).getD 0 []) = rdV (T.getD 0 ⟨#[]⟩) := by
      match T, h0 with
      | x :: T, _ => rfl
    have hgd1 : T.length = 2 → wV ((T.map bL).getD 1 []) = rdV (T.getD 1 ⟨#[]⟩) := fun h => by
      match T, h with
      | [x, y], _ => rfl
    rw [hnums, hgd] at hro
    clear hR hnums h0 hgd hT4
    by_cases hm : a = strOf wMark
    · rw [if_pos hm] at hro
      have hat : a.toList = [109, 97, 114, 107] := beqT hm
      have HRO := hid' hro
      clear hw hm hro hgd1
      go_wp2_with fail
      refine HN.out.mono ?_
      rintro e w3 ⟨hcase, hB3⟩
      have HL3 := hid' (bel_then HL2.out hB3)
      clear hB3
      rcases hcase with ⟨hk, v, rfl, hown⟩ | ⟨hk, rfl⟩
      · obtain ⟨A, c, rfl, hc1, hc2, hrd⟩ := own_rd hown
        have HRD3 := hid' hrd
        have hro := HRO.out
        rw [hk] at hro
        clear hown hrd hk
        by_cases hl1 : T.length = 1
        · match T, hl1 with
          | [x0], _ =>
            obtain ⟨ad, hA, n0⟩ := HRD3.out 0 (.int .i64 (rdV x0)) rfl
            subst hA
            change w3.cell? ad = _ at n0
            have hro2 : o = some (.mark (rdV x0)) := by rw [hro]; rfl
            subst hro2
            clear hro hT1
            go_wp2
            go_ret2
            exact ⟨rfl, HL3.out⟩
        · rw [if_neg (fun h => hl1 h.2)] at hro
          subst hro
          have hl2 : ((T.length : Int) == 1) = false := by rw [beq_eq_false_iff_ne]; omega
          go_wp2
          go_ret2
          exact ⟨rfl, HL3.out⟩
      · have hro := HRO.out
        rw [hk, if_neg (fun h => by cases h.1)] at hro
        subst hro
        clear hk
        go_wp2
        go_ret2
        exact ⟨rfl, HL3.out⟩
    · rw [if_neg hm] at hro
      by_cases hf : a = strOf wFault
      · rw [if_pos hf] at hro
        have hat : a.toList = [102, 97, 117, 108, 116] := beqT hf
        have HRO := hid' hro
        clear hw hm hro hf
        go_wp2_with fail
        refine HN.out.mono ?_
        rintro e w3 ⟨hcase, hB3⟩
        have HL3 := hid' (bel_then HL2.out hB3)
        clear hB3
        rcases hcase with ⟨hk, v, rfl, hown⟩ | ⟨hk, rfl⟩
        · obtain ⟨A, c, rfl, hc1, hc2, hrd⟩ := own_rd hown
          have HRD3 := hid' hrd
          have hro := HRO.out
          rw [hk] at hro
          clear hown hrd hk
          by_cases hl1 : T.length = 2
          · rw [hgd1 hl1] at hro
            match T, hl1 with
            | [x0, x1], _ =>
              obtain ⟨ad, hA, n0⟩ := HRD3.out 0 (.int .i64 (rdV x0)) rfl
              obtain ⟨ad1, hA1, n1⟩ := HRD3.out 1 (.int .i64 (rdV x1)) rfl
              subst hA
              cases hA1
              change w3.cell? ad = _ at n0
              change w3.cell? ⟨ad.block, ad.off + 1, none⟩ = _ at n1
              have hro2 : o = some (.fault (rdV x0) (rdV x1)) := by rw [hro]; rfl
              subst hro2
              clear hro hT1 hgd1
              go_wp2_with fail
              go_quiet (fail)
              all_goals
                go_wp2
                go_ret2
                exact ⟨rfl, by first | exact HL3.out | exact bel_drewN HL3.out _⟩
          · rw [if_neg (fun h => hl1 h.2)] at hro
            subst hro
            have hl2 : ((T.length : Int) == 2) = false := by rw [beq_eq_false_iff_ne]; omega
            clear hgd1
            go_wp2
            go_ret2
            exact ⟨rfl, HL3.out⟩
        · have hro := HRO.out
          rw [hk, if_neg (fun h => by cases h.1)] at hro
          subst hro
          clear hk hgd1
          go_wp2
          go_ret2
          exact ⟨rfl, HL3.out⟩
      · rw [if_neg hf] at hro
        subst hro
        clear hgd1
        have t3 := beqF hm
        have t4 := beqF hf
        unfold wMark at t3
        unfold wFault at t4
        by_cases h1 : a = strOf wElement
        · have hat : a.toList = [101, 108, 101, 109, 101, 110, 116] := beqT h1
          have hl4 : ((T.length : Int) == 4) = false := by rw [beq_eq_false_iff_ne]; intro h; exact hw ⟨.inl h1, by omega⟩
          clear hw hm hf h1
          go_wp2
          go_ret2
          exact ⟨rfl, HL2.out⟩
        · by_cases h2 : a = strOf wLate
          · have hat : a.toList = [108, 97, 116, 101] := beqT h2
            have hl4 : ((T.length : Int) == 4) = false := by rw [beq_eq_false_iff_ne]; intro h; exact hw ⟨.inr h2, by omega⟩
            clear hw hm hf h1 h2
            go_wp2
            go_ret2
            exact ⟨rfl, HL2.out⟩
          · have t1 := beqF h1
            have t2 := beqF h2
            unfold wElement at t1
            unfold wLate at t2
            clear hw hm hf h1 h2
            go_wp2
            go_ret2
            exact ⟨rfl, HL2.out⟩
end Go.Proofs.YtioaijjmialdoaaGreatDoor
