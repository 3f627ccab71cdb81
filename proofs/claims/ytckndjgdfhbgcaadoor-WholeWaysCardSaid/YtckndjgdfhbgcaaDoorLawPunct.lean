
/- Whatever records come, for any sign: how far time has come, and which of them say so; records that do not say so change nothing: the laws, walked. No condition but the tables of Go's own. -/
import Derived.Test.YtckndjgdfhbgcaaDoorPunct
namespace Go.Proofs.YtckndjgdfhbgcaaDoor
set_option maxRecDepth 100000
set_option linter.unusedSimpArgs false
open Go.RowKit
set_option linter.unusedVariables false
set_option linter.unusedSimpArgs false

theorem sp11 : hasB ⟨#[97]⟩ 33 = false ∧ hasB ⟨#[98, 33]⟩ 33 = true := by
  constructor
  · decide +kernel
  · decide +kernel
theorem PuGen.now {w : World} {g : Nat} {sign now : Int} (h : PuGen w g sign now) : I64 now := by
  obtain ⟨a, s, _, rfl, h⟩ := h
  exact I64.clNow h
set_option maxHeartbeats 4000000 in
theorem speaks11 (w : World) (hT : U8T w) : Calls Tryd.prog 6 #[] w fun e w' => e = .returned (.bool true) ∧ Below w.heap.size w w' := by
  obtain ⟨s1, s2⟩ := sp11
  have hs1 : pSays (1, 9, ⟨#[97]⟩) 33 = false := by unfold pSays; rw [s1]; rfl
  have hs2 : pSays (1, 4, ⟨#[98, 33]⟩) 33 = true := by unfold pSays; rw [s2]; rfl
  have hs3 : pSays (2, 0, ⟨#[]⟩) 0 = true := rfl
  have HS1 := hid' hs1
  have HS2 := hid' hs2
  have HS3 := hid' hs3
  have HT := hid' hT
  have h33 : I64 33 := (by unfold I64 at *; omega)
  have h9 : I64 9 := (by unfold I64 at *; omega)
  have h4 : I64 4 := (by unfold I64 at *; omega)
  have h0 : I64 0 := (by unfold I64 at *; omega)
  clear s1 s2 hs1 hs2 hs3 hT
  go_enter Tryd.func6, Tryd.ntmps6
  go_wp2_with fail
  refine (punct_New 33 _).mono ?_
  rintro e w1 ⟨g, rfl, hg, hG, hB1⟩
  have HG := hid' hG
  have hgl := hG.lt
  obtain ⟨t0, t1⟩ := HT.out.lt
  have HT1 := hid' (HT.out.below hB1)
  clear hG
  go_wp2_with (go_at_call 11; refine (punct_Now g 33 NEV _ HG.out).mono ?_; rintro e w' ⟨rfl, rfl⟩)
  refine (punct_Seen g 33 NEV 1 9 ⟨#[97]⟩ _ HG.out (by show (1 : Nat) ≤ 200000; omega) h33 h9 HT1.out).mono ?_
  rintro e w2 ⟨rfl, hG2, hM2⟩
  rw [if_neg (by rw [HS1.out]; decide)] at hG2
  have HG2 := hid' hG2
  have HT2 := hid' (HT1.out.mod hM2 (by omega) (by omega))
  go_wp2_with fail
  refine (punct_Seen g 33 NEV 1 4 ⟨#[98, 33]⟩ _ HG2.out (by show (2 : Nat) ≤ 200000; omega) h33 h4 HT2.out).mono ?_
  rintro e w3 ⟨rfl, hG3, hM3⟩
  rw [if_pos HS2.out] at hG3
  have HG3 := hid' hG3
  have HT3 := hid' (HT2.out.mod hM3 (by omega) (by omega))
  have HL3 := hid' (bel_mod (bel_mod hB1 hM2 (fun i hi h => by omega)) hM3 (fun i hi h => by omega))
  clear hG2 hG3 hM2 hM3 hB1
  go_wp2_with (first
    | (go_at_call 11; refine (punct_Now g 33 _ _ HG3.out).mono ?_; rintro e w' ⟨rfl, rfl⟩)
    | (go_at_call 12; refine (punct_Sign g 33 _ _ HG3.out).mono ?_; rintro e w' ⟨rfl, rfl⟩)
    | (go_at_call 9; refine (punct_Says 2 0 ⟨#[]⟩ 0 _ (by show (0 : Nat) ≤ 200000; omega) h0 HT3.out).mono ?_; rintro e w4 ⟨rfl, hB4⟩; rw [HS3.out]))
  go_ret
  exact ⟨rfl, bel_then HL3.out hB4⟩
/-- how far time has come, by those that say so -/
def pFold (sign : Int) (l : List Rec) : Int := l.foldl (fun now r => if pSays r sign = true then max now r.2.1 else now) NEV
theorem pFold_snoc (sign : Int) (l : List Rec) (r : Rec) : pFold sign (l ++ [r]) = if pSays r sign = true then max (pFold sign l) r.2.1 else pFold sign l := by unfold pFold; rw [List.foldl_append]; rfl
set_option maxHeartbeats 8000000 in
theorem punctNows (sign : Int) (A : Option Addr) (c : Nat) (l : List Rec) (w : World) (hsg : (Lit.int .i64 sign).wf = true)
    (hr : ∀ j x, l[j]? = some x → ∃ ad row, A = some ad ∧ RRec w row x ∧ row.length = 3 ∧ ∀ i u, row[i]? = some u → w.cell? ((ad.add (j * 3)).add i) = some u) (hn : l.length ≤ maxLen) (hT : U8T w) :
    Calls Tryd.prog 3 #[.int .i64 sign, .slice A l.length c] w fun e w' => e = .returned (.bool true) ∧ Below w.heap.size w w' := by
  have hn' : l.length ≤ 9223372036854775807 := hn
  have hsI := I64.of_wf hsg
  have HR := hid' (rowR.rds hr)
  have HI := hid' (rowR.i64 hr)
  have HT := hid' hT
  clear hr hn hT hsg
  by_cases hbig : 100 < l.length
  · go_enter Tryd.func3, Tryd.ntmps3
    go_wp2_with (go_at_call 6; refine (speaks11 _ HT.out).mono ?_; rintro e w1 ⟨rfl, hB1⟩)
    go_ret
    exact ⟨rfl, hB1⟩
  obtain ⟨n, hn⟩ : ∃ n, n = l.length := ⟨_, rfl⟩
  rw [← hn] at hbig hn' ⊢
  have HN := hid' hn
  clear hn
  go_enter Tryd.func3, Tryd.ntmps3
  go_wp2_with (go_at_call 6; refine (speaks11 _ HT.out).mono ?_; rintro e w1 ⟨rfl, hB1⟩)
  refine (punct_New sign _).mono ?_
  rintro e w2 ⟨g, rfl, hg, hG, hB2⟩
  have hbs := hB1.size
  obtain ⟨t0, t1⟩ := HT.out.lt
  have HL0 := hid' (bel_then hB1 hB2)
  have HG0 := hid' hG
  clear hB1 hB2 hG
  go_wp2
  go_loopw [6, 19] (fun v6 v19 wr => ∃ i : Nat, i ≤ n ∧ v19 = .int .i64 i ∧ v6 = .int .i64 (pFold sign (l.take i)) ∧ PuGen wr g sign (pFold sign (l.take i)) ∧ Below w.heap.size w wr) (fun _ v19 _ => n - (intOf v19).toNat)
  case atStart => exact ⟨0, Nat.zero_le _, rfl, rfl, HG0.out, HL0.out⟩
  case round =>
    obtain ⟨i, hi, rfl, rfl, hG, hL⟩ := hrel
    have HG := hid' hG
    have HL := hid' hL
    clear hG hL
    by_cases hlt : i < n
    · obtain ⟨r, hx⟩ : ∃ x, l[i]? = some x := ⟨_, List.getElem?_eq_getElem (by rw [← HN.out]; exact hlt)⟩
      obtain ⟨ad, rfl, a0, a1, a2⟩ := (HR.out.below HL.out).rec hx
      obtain ⟨hI, hxm⟩ := HI.out r (List.mem_of_getElem? hx)
      have hxm' : r.2.2.size ≤ 9223372036854775807 := hxm
      by_cases h100 : 200 < r.2.2.size
      · obtain ⟨kd, tm, x⟩ := r
        simp only at h100 a0 a1 a2 hxm'
        clear hx hxm hI
        go_wp2
        go_ret
        exact ⟨rfl, bel_alloc HL.out _⟩
      have hpf := pFold_snoc sign (l.take i) r
      rw [← take_snoc' hx] at hpf
      obtain ⟨kd, tm, x⟩ := r
      simp only at h100 a0 a1 a2 hxm' hI hxm hpf
      obtain ⟨now, hnow⟩ : ∃ now, now = pFold sign (l.take i) := ⟨_, rfl⟩
      rw [← hnow] at hpf HG ⊢
      have hnI := HG.out.now
      obtain ⟨sy, hsy⟩ : ∃ sy, sy = pSays (kd, tm, x) sign := ⟨_, rfl⟩
      rw [← hsy] at hpf
      have HSY := hid' hsy
      have hsy2 : sy = (kd == 2 || hasB x sign) := hsy
      have hb1 := bel_alloc (bel_refl wr) (.cells #[.int .i64 kd, .int .i64 tm, .string x] 27)
      have HK1 := hid' (Blk.new_ wr 27 #[.int .i64 kd, .int .i64 tm, .string x])
      have HG1 := hid' (HG.out.below hb1)
      have HL1 := hid' (bel_then HL.out hb1)
      have HT1 := hid' (HT.out.below HL1.out)
      have HSA := hid' (fun W (hT : U8T W) => punct_Says kd tm x sign W (by omega) hsI hT)
      rw [← HSY.out] at HSA
      have HPF := hid' hpf
      clear hpf hx hxm hnow hsy hb1
      by_cases hk : kd = 2
      · have h1 : (kd == 2) = true := by simpa using hk
        rw [h1, Bool.true_or] at hsy2
        subst hsy2
        rw [if_pos rfl] at HPF
        have hd0 := HK1.out.cell 0
        have hd2 := HK1.out.cell 2
        have e0 : (wr.alloc (.cells #[.int .i64 kd, .int .i64 tm, .string x] 27)).cell? ⟨wr.heap.size, 0, none⟩ = some (.int .i64 kd) := hd0
        clear hk hd0 hd2
        go_wp2_with fail
        generalize wr.alloc (.cells #[.int .i64 kd, .int .i64 tm, .string x] 27) = w1 at *
        generalize wr.heap.size = ba at *
        clear e0
        refine (HSA.out _ HT1.out).mono ?_
        rintro e w3 ⟨rfl, hB3⟩
        have HG3 := hid' (HG1.out.below hB3)
        have HL3 := hid' (bel_then HL1.out hB3)
        have HK3 := hid' (HK1.out.below hB3)
        have HT3 := hid' (HT1.out.below hB3)
        clear hB3
        try clear c0 c1 c2
        have c0 : w3.cell? ⟨ba, 0, none⟩ = some (.int .i64 kd) := by simpa using HK3.out.cell 0
        have c1 : w3.cell? ⟨ba, 1, none⟩ = some (.int .i64 tm) := by simpa using HK3.out.cell 1
        have c2 : w3.cell? ⟨ba, 2, none⟩ = some (.string x) := by simpa using HK3.out.cell 2
        go_wp2_with fail
        refine (punct_Seen g sign now kd tm x _ HG3.out (by omega) hsI hI HT3.out).mono ?_
        rintro e w4 ⟨rfl, hG4, hM4⟩
        rw [← HSY.out] at hG4
        have HG4 := hid' (show PuGen w4 g sign (max now tm) from hG4)
        have HL4 := hid' (bel_mod HL3.out hM4 (fun i hi h => by omega))
        clear hG4 hM4 c0 c1 c2
        go_wp2_with (go_at_call 11; refine (punct_Now g sign _ _ HG4.out).mono ?_; rintro e w' ⟨rfl, rfl⟩)
        go_roundw
        case rel => exact ⟨i + 1, by omega, by go_num, by rw [HPF.out], by rw [HPF.out]; exact HG4.out, HL4.out⟩
        case measure => first | (simp [intOf]; done) | (simp [intOf]; omega)
      · have h1 : (kd == 2) = false := by simpa using hk
        rw [h1, Bool.false_or] at hsy2
        have HH := hid' (fun W => ref04_Has x sign W (by omega))
        rw [← hsy2] at HH
        clear hk hsy2
        go_wp2_with fail
        generalize wr.alloc (.cells #[.int .i64 kd, .int .i64 tm, .string x] 27) = w1 at *
        generalize wr.heap.size = ba at *
        refine (HH.out _).mono ?_
        rintro e w2 ⟨rfl, hB2⟩
        have HG2 := hid' (HG1.out.below hB2)
        have HL2 := hid' (bel_then HL1.out hB2)
        have HK2 := hid' (HK1.out.below hB2)
        have HT2 := hid' (HT1.out.below hB2)
        have c0 : w2.cell? ⟨ba, 0, none⟩ = some (.int .i64 kd) := by simpa using HK2.out.cell 0
        have c1 : w2.cell? ⟨ba, 1, none⟩ = some (.int .i64 tm) := by simpa using HK2.out.cell 1
        have c2 : w2.cell? ⟨ba, 2, none⟩ = some (.string x) := by simpa using HK2.out.cell 2
        clear hB2
        cases sy with
        | true =>
          rw [if_pos rfl] at HPF
          go_wp2_with fail
          refine (HSA.out _ HT2.out).mono ?_
          rintro e w3 ⟨rfl, hB3⟩
          have HG3 := hid' (HG2.out.below hB3)
          have HL3 := hid' (bel_then HL2.out hB3)
          have HK3 := hid' (HK2.out.below hB3)
          have HT3 := hid' (HT2.out.below hB3)
          clear hB3
          try clear c0 c1 c2
          have c0 : w3.cell? ⟨ba, 0, none⟩ = some (.int .i64 kd) := by simpa using HK3.out.cell 0
          have c1 : w3.cell? ⟨ba, 1, none⟩ = some (.int .i64 tm) := by simpa using HK3.out.cell 1
          have c2 : w3.cell? ⟨ba, 2, none⟩ = some (.string x) := by simpa using HK3.out.cell 2
          go_wp2_with fail
          refine (punct_Seen g sign now kd tm x _ HG3.out (by omega) hsI hI HT3.out).mono ?_
          rintro e w4 ⟨rfl, hG4, hM4⟩
          rw [← HSY.out] at hG4
          have HG4 := hid' (show PuGen w4 g sign (max now tm) from hG4)
          have HL4 := hid' (bel_mod HL3.out hM4 (fun i hi h => by omega))
          clear hG4 hM4 c0 c1 c2
          go_wp2_with (go_at_call 11; refine (punct_Now g sign _ _ HG4.out).mono ?_; rintro e w' ⟨rfl, rfl⟩)
          go_roundw
          case rel => exact ⟨i + 1, by omega, by go_num, by rw [HPF.out], by rw [HPF.out]; exact HG4.out, HL4.out⟩
          case measure => first | (simp [intOf]; done) | (simp [intOf]; omega)
        | false =>
          rw [if_neg (by decide)] at HPF
          go_wp2_with fail
          refine (HSA.out _ HT2.out).mono ?_
          rintro e w3 ⟨rfl, hB3⟩
          have HG3 := hid' (HG2.out.below hB3)
          have HL3 := hid' (bel_then HL2.out hB3)
          have HK3 := hid' (HK2.out.below hB3)
          have HT3 := hid' (HT2.out.below hB3)
          clear hB3
          try clear c0 c1 c2
          have c0 : w3.cell? ⟨ba, 0, none⟩ = some (.int .i64 kd) := by simpa using HK3.out.cell 0
          have c1 : w3.cell? ⟨ba, 1, none⟩ = some (.int .i64 tm) := by simpa using HK3.out.cell 1
          have c2 : w3.cell? ⟨ba, 2, none⟩ = some (.string x) := by simpa using HK3.out.cell 2
          go_wp2_with fail
          refine (punct_Seen g sign now kd tm x _ HG3.out (by omega) hsI hI HT3.out).mono ?_
          rintro e w4 ⟨rfl, hG4, hM4⟩
          rw [← HSY.out] at hG4
          have HG4 := hid' (show PuGen w4 g sign now from hG4)
          have HL4 := hid' (bel_mod HL3.out hM4 (fun i hi h => by omega))
          clear hG4 hM4 c0 c1 c2
          go_wp2_with (go_at_call 11; refine (punct_Now g sign _ _ HG4.out).mono ?_; rintro e w' ⟨rfl, rfl⟩)
          go_roundw
          case rel => exact ⟨i + 1, by omega, by go_num, by rw [HPF.out], by rw [HPF.out]; exact HG4.out, HL4.out⟩
          case measure => first | (simp [intOf]; done) | (simp [intOf]; omega)
    · obtain rfl : i = n := by omega
      go_wp2_with (go_at_call 12; refine (punct_Sign g sign _ _ HG.out).mono ?_; rintro e w' ⟨rfl, rfl⟩)
      go_ret
      exact ⟨rfl, HL.out⟩
set_option maxHeartbeats 8000000 in
theorem punctMute (sign : Int) (A : Option Addr) (c : Nat) (l : List Rec) (w : World) (hsg : (Lit.int .i64 sign).wf = true)
    (hr : ∀ j x, l[j]? = some x → ∃ ad row, A = some ad ∧ RRec w row x ∧ row.length = 3 ∧ ∀ i u, row[i]? = some u → w.cell? ((ad.add (j * 3)).add i) = some u) (hn : l.length ≤ maxLen) (hT : U8T w) :
    Calls Tryd.prog 4 #[.int .i64 sign, .slice A l.length c] w fun e w' => e = .returned (.bool true) ∧ Below w.heap.size w w' := by
  have hn' : l.length ≤ 9223372036854775807 := hn
  have hsI := I64.of_wf hsg
  have HR := hid' (rowR.rds hr)
  have HI := hid' (rowR.i64 hr)
  have HT := hid' hT
  clear hr hn hT hsg
  by_cases hbig : 100 < l.length
  · go_enter Tryd.func4, Tryd.ntmps4
    go_wp2_with (go_at_call 6; refine (speaks11 _ HT.out).mono ?_; rintro e w1 ⟨rfl, hB1⟩)
    go_ret
    exact ⟨rfl, hB1⟩
  obtain ⟨n, hn⟩ : ∃ n, n = l.length := ⟨_, rfl⟩
  rw [← hn] at hbig hn' ⊢
  have HN := hid' hn
  clear hn
  go_enter Tryd.func4, Tryd.ntmps4
  go_wp2_with (go_at_call 6; refine (speaks11 _ HT.out).mono ?_; rintro e w1 ⟨rfl, hB1⟩)
  refine (punct_New sign _).mono ?_
  rintro e w2 ⟨g, rfl, hg, hG, hB2⟩
  go_wp2_with fail
  refine (punct_New sign _).mono ?_
  rintro e w3 ⟨g', rfl, hg', hG', hB3⟩
  have hbs := hB1.size
  have hbs2 := hB2.size
  have hgl := hG.lt
  have hgg : g ≠ g' := by omega
  obtain ⟨t0, t1⟩ := HT.out.lt
  have HL0 := hid' (bel_then (bel_then hB1 hB2) hB3)
  have HG0 := hid' (hG.below hB3)
  have HG0' := hid' hG'
  clear hB1 hB2 hB3 hG hG' hgl
  go_wp2
  go_loopw [20] (fun v20 wr => ∃ i : Nat, i ≤ n ∧ v20 = .int .i64 i ∧ PuGen wr g sign (pFold sign (l.take i)) ∧ PuGen wr g' sign (pFold sign (l.take i)) ∧ Below w.heap.size w wr) (fun v20 _ => n - (intOf v20).toNat)
  case atStart => exact ⟨0, Nat.zero_le _, rfl, HG0.out, HG0'.out, HL0.out⟩
  case round =>
    obtain ⟨i, hi, rfl, hG, hG', hL⟩ := hrel
    have HG := hid' hG
    have HG' := hid' hG'
    have HL := hid' hL
    clear hG hL hG'
    by_cases hlt : i < n
    · obtain ⟨r, hx⟩ : ∃ x, l[i]? = some x := ⟨_, List.getElem?_eq_getElem (by rw [← HN.out]; exact hlt)⟩
      obtain ⟨ad, rfl, a0, a1, a2⟩ := (HR.out.below HL.out).rec hx
      obtain ⟨hI, hxm⟩ := HI.out r (List.mem_of_getElem? hx)
      have hxm' : r.2.2.size ≤ 9223372036854775807 := hxm
      by_cases h100 : 200 < r.2.2.size
      · obtain ⟨kd, tm, x⟩ := r
        simp only at h100 a0 a1 a2 hxm'
        clear hx hxm hI
        go_wp2
        go_ret
        exact ⟨rfl, bel_alloc HL.out _⟩
      have hpf := pFold_snoc sign (l.take i) r
      rw [← take_snoc' hx] at hpf
      obtain ⟨kd, tm, x⟩ := r
      simp only at h100 a0 a1 a2 hxm' hI hxm hpf
      obtain ⟨now, hnow⟩ : ∃ now, now = pFold sign (l.take i) := ⟨_, rfl⟩
      rw [← hnow] at hpf HG HG'
      obtain ⟨sy, hsy⟩ : ∃ sy, sy = pSays (kd, tm, x) sign := ⟨_, rfl⟩
      rw [← hsy] at hpf
      have HSY := hid' hsy
      have hb1 := bel_alloc (bel_refl wr) (.cells #[.int .i64 kd, .int .i64 tm, .string x] 27)
      have HK1 := hid' (Blk.new_ wr 27 #[.int .i64 kd, .int .i64 tm, .string x])
      have HG1 := hid' (HG.out.below hb1)
      have HG1' := hid' (HG'.out.below hb1)
      have HL1 := hid' (bel_then HL.out hb1)
      have HT1 := hid' (HT.out.below HL1.out)
      have HSA := hid' (fun W (hT : U8T W) => punct_Says kd tm x sign W (by omega) hsI hT)
      rw [← HSY.out] at HSA
      have HPF := hid' hpf
      have hbg : wr.heap.size ≠ g := by have := HG.out.lt; omega
      have hbg' : wr.heap.size ≠ g' := by have := HG'.out.lt; omega
      clear hpf hx hxm hnow hsy hb1
      go_wp2_with fail
      generalize wr.alloc (.cells #[.int .i64 kd, .int .i64 tm, .string x] 27) = w1 at *
      generalize wr.heap.size = ba at *
      refine (punct_Seen g sign now kd tm x _ HG1.out (by omega) hsI hI HT1.out).mono ?_
      rintro e w2 ⟨rfl, hG2, hM2⟩
      rw [← HSY.out] at hG2
      have HG2 := hid' hG2
      have HG2' := hid' (HG1'.out.mod hM2 (fun h => hgg h.symm))
      have HL2 := hid' (bel_mod HL1.out hM2 (fun i hi h => by omega))
      have HK2 := hid' (HK1.out.mod hM2 hbg)
      have HT2 := hid' (HT1.out.mod hM2 (by omega) (by omega))
      have c0 : w2.cell? ⟨ba, 0, none⟩ = some (.int .i64 kd) := by simpa using HK2.out.cell 0
      have c1 : w2.cell? ⟨ba, 1, none⟩ = some (.int .i64 tm) := by simpa using HK2.out.cell 1
      have c2 : w2.cell? ⟨ba, 2, none⟩ = some (.string x) := by simpa using HK2.out.cell 2
      clear hG2 hM2
      go_wp2_with fail
      refine (HSA.out _ HT2.out).mono ?_
      rintro e w3 ⟨rfl, hB3⟩
      have HG3 := hid' (HG2.out.below hB3)
      have HG3' := hid' (HG2'.out.below hB3)
      have HL3 := hid' (bel_then HL2.out hB3)
      have HK3 := hid' (HK2.out.below hB3)
      have HT3 := hid' (HT2.out.below hB3)
      clear hB3 c0 c1 c2
      have c0 : w3.cell? ⟨ba, 0, none⟩ = some (.int .i64 kd) := by simpa using HK3.out.cell 0
      have c1 : w3.cell? ⟨ba, 1, none⟩ = some (.int .i64 tm) := by simpa using HK3.out.cell 1
      have c2 : w3.cell? ⟨ba, 2, none⟩ = some (.string x) := by simpa using HK3.out.cell 2
      cases sy with
      | true =>
        rw [if_pos rfl] at HPF HG3
        go_wp2_with fail
        refine (punct_Seen g' sign now kd tm x _ HG3'.out (by omega) hsI hI HT3.out).mono ?_
        rintro e w4 ⟨rfl, hG4, hM4⟩
        rw [← HSY.out, if_pos rfl] at hG4
        have HG4' := hid' hG4
        have HG4 := hid' (HG3.out.mod hM4 hgg)
        have HL4 := hid' (bel_mod HL3.out hM4 (fun i hi h => by omega))
        clear hG4 hM4 c0 c1 c2
        have e0 : (max now tm != max now tm) = false := by simp
        go_wp2_with (go_at_call 11; first | (refine (punct_Now g sign _ _ HG4.out).mono ?_; rintro e w' ⟨rfl, rfl⟩) | (refine (punct_Now g' sign _ _ HG4'.out).mono ?_; rintro e w' ⟨rfl, rfl⟩))
        go_roundw
        case rel => exact ⟨i + 1, by omega, by go_num, by rw [HPF.out]; exact HG4.out, by rw [HPF.out]; exact HG4'.out, HL4.out⟩
        case measure => first | (simp [intOf]; done) | (simp [intOf]; omega)
      | false =>
        rw [if_neg (by decide)] at HPF HG3
        have e0 : (now != now) = false := by simp
        go_wp2_with (go_at_call 11; first | (refine (punct_Now g sign _ _ HG3.out).mono ?_; rintro e w' ⟨rfl, rfl⟩) | (refine (punct_Now g' sign _ _ HG3'.out).mono ?_; rintro e w' ⟨rfl, rfl⟩))
        go_roundw
        case rel => exact ⟨i + 1, by omega, by go_num, by rw [HPF.out]; exact HG3.out, by rw [HPF.out]; exact HG3'.out, HL3.out⟩
        case measure => first | (simp [intOf]; done) | (simp [intOf]; omega)
    · go_wp2
      go_ret
      exact ⟨rfl, HL.out⟩
end Go.Proofs.YtckndjgdfhbgcaaDoor
