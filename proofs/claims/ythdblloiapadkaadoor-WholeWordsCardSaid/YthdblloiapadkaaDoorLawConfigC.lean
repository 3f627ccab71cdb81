
/- The laws of configurations: what any lines are read as, walked. No condition but the tables and variables of Go's own library. -/
import Derived.Test.YthdblloiapadkaaDoorConfigI
import Derived.Test.YthdblloiapadkaaDoorOpen
namespace Go.Proofs.YthdblloiapadkaaDoor
set_option maxRecDepth 100000
set_option linter.unusedSimpArgs false
open Go.RowKit
set_option linter.unusedVariables false
set_option linter.unusedSimpArgs false

def linesL (xs : List ByteArray) : List UInt8 := xs.flatMap fun x => bL x ++ [10]
theorem linesL_take {xs : List ByteArray} {k : Nat} {x : ByteArray} (h : xs[k]? = some x) : linesL (xs.take (k + 1)) = linesL (xs.take k) ++ (bL x ++ [10]) := by
  unfold linesL; rw [List.take_add_one, h]; simp
theorem linesL_len : ∀ {xs : List ByteArray}, (∀ x ∈ xs, x.size ≤ 200) → (linesL xs).length ≤ 201 * xs.length
  | [], _ => by simp [linesL]
  | x :: xs, h => by
    have ih := linesL_len (xs := xs) (fun y hy => h y (List.mem_cons_of_mem _ hy))
    have hx := h x (List.mem_cons_self ..)
    unfold linesL at ih ⊢
    simp only [List.flatMap_cons, List.length_append, List.length_cons, List.length_nil, bL_len]
    omega
theorem rok_facts {y : ByteArray} (h : rokP y = true) : rlL (rvP y) = bL y ++ [10] ∧ rlO (rvP y) = true ∧ rlI (rvP y) := by
  unfold rokP at h
  obtain ⟨r, hr⟩ := Option.isSome_iff_exists.1 h
  have hv : rvP y = r := by unfold rvP; rw [hr]; rfl
  rw [hv]; exact ruleP_some hr
theorem cfg_lines {x : ByteArray} {l : List ByteArray} {a b : Int} (hh : headP (bL x) = some (a, b)) (hok : ∀ y ∈ l, rokP y = true) : cfgL (l.map rvP) a b = linesL (x :: l) := by
  unfold cfgL
  rw [(headP_some hh).1]
  unfold linesL
  rw [List.flatMap_cons]
  congr 1
  induction l with
  | nil => rfl
  | cons y l ih =>
    rw [List.map_cons, List.flatMap_cons, List.flatMap_cons, (rok_facts (hok y (List.mem_cons_self ..))).1, ih (fun z hz => hok z (List.mem_cons_of_mem _ hz))]
theorem badIdx_some : ∀ {l : List ByteArray} {k : Nat}, badIdx l = some k → k < l.length ∧ badIdx (l.take k) = none ∧ badIdx (l.take (k + 1)) = some k
  | [], k, h => by cases h
  | y :: l, k, h => by
    unfold badIdx at h
    split at h
    · rename_i hy
      obtain ⟨j, hj, rfl⟩ := Option.map_eq_some_iff.1 h
      obtain ⟨h1, h2, h3⟩ := badIdx_some hj
      refine ⟨by simp; omega, ?_, ?_⟩
      · rw [List.take_succ_cons]; unfold badIdx; rw [if_pos hy, h2]; rfl
      · rw [List.take_succ_cons]; unfold badIdx; rw [if_pos hy, h3]; rfl
    · rename_i hy
      simp only [Option.some.injEq] at h
      subst h
      refine ⟨by simp, rfl, ?_⟩
      rw [List.take_succ_cons]; unfold badIdx; rw [if_neg hy]
theorem bad_parts {xs : List ByteArray} (h0 : parseBad xs ≠ 0) (h1 : parseBad xs ≠ 1) : parseBad xs ≤ xs.length ∧ 2 ≤ parseBad xs ∧ parseBad (xs.take (parseBad xs - 1)) = 0 ∧ parseBad (xs.take (parseBad xs)) = parseBad xs := by
  cases xs with
  | nil => exact absurd rfl h1
  | cons x l =>
    have hp : parseBad (x :: l) = (match headP (bL x) with | none => 1 | some _ => match badIdx l with | some k => k + 2 | none => 0) := rfl
    cases hh : headP (bL x) with
    | none => rw [hp, hh] at h1; exact absurd rfl h1
    | some ab =>
      cases hb : badIdx l with
      | none => rw [hp, hh, hb] at h0; exact absurd rfl h0
      | some k =>
        have hk : parseBad (x :: l) = k + 2 := by rw [hp, hh, hb]
        obtain ⟨g1, g2, g3⟩ := badIdx_some hb
        rw [hk]
        refine ⟨by simp; omega, by omega, ?_, ?_⟩
        · show parseBad (x :: l.take k) = 0
          show (match headP (bL x) with | none => 1 | some _ => match badIdx (l.take k) with | some k => k + 2 | none => 0) = 0
          rw [hh, g2]
        · show parseBad (x :: l.take (k + 1)) = k + 2
          show (match headP (bL x) with | none => 1 | some _ => match badIdx (l.take (k + 1)) with | some k => k + 2 | none => 0) = k + 2
          rw [hh, g3]
theorem bad_le (xs : List ByteArray) : parseBad xs ≤ max xs.length 1 := by
  by_cases h0 : parseBad xs = 0
  · omega
  · by_cases h1 : parseBad xs = 1
    · omega
    · have := (bad_parts h0 h1).1; omega
theorem rd_takeS {w : World} {A : Option Addr} {xs : List ByteArray} (h : Rd w A (xs.map .string)) (n : Nat) : Rd w A ((xs.take n).map .string) := fun j u hj => by
  rw [List.map_take, List.getElem?_take] at hj
  split at hj
  · exact h j u hj
  · cases hj
theorem parse_any (A : Option Addr) (c n : Nat) (xs : List ByteArray) (w : World) (hn : xs.length = n) (hr : Rd w A (xs.map .string)) (hl : n ≤ 1000) (hlc : n ≤ c) (hz : ∀ y ∈ xs, y.size ≤ 10000) (hP : PowT w) (hE : ErV w) (hM : MaxT w) :
    Calls Tryd.prog 36 #[.slice A n c] w fun e w' => (∃ A' n' c' a b, e = .returned (.tuple #[.agg #[.slice A' n' c', .int .i64 a, .int .i64 b], .int .i64 (parseBad xs : Int)])) ∧ Below w.heap.size w w' := by
  subst hn
  refine (config_Parse A c xs w hr hl hlc hz hP hE hM).mono ?_
  rintro e w' ⟨hc, hB⟩
  rcases hc with ⟨_, he⟩ | ⟨h, x, l, a, b, v, _, _, he, hown, _⟩
  · exact ⟨⟨none, 0, 0, 0, 0, he⟩, hB⟩
  · obtain ⟨A', c', rfl⟩ := own_len0 hown
    exact ⟨⟨A', _, c', a, b, by rw [he, h]; rfl⟩, hB⟩
set_option maxHeartbeats 16000000 in
theorem configParses (A : Option Addr) (c : Nat) (xs : List ByteArray) (w : World) (hr : Rd w A (xs.map .string)) (hwf : ∀ x ∈ xs, x.size ≤ maxLen) (hl : xs.length ≤ maxLen) (hlc : xs.length ≤ c) (hP : PowT w) (hE : ErV w) (hM : MaxT w) :
    Calls Tryd.prog 10 #[.slice A xs.length c] w fun e w' => e = .returned (.bool true) ∧ Below w.heap.size w w' := by
  have HS := hid' (speaks19 w hP hE hM)
  have HP := hid' hP
  have HE := hid' hE
  have HM := hid' hM
  have HR := hid' hr
  have HWF := hid' hwf
  have hlm : xs.length ≤ 9223372036854775807 := by unfold maxLen at hl; omega
  clear hP hE hM hr hwf hl
  by_cases hb1 : 50 < xs.length
  · have hb1i : (50 : Int) < (xs.length : Int) := by omega
    go_enter Tryd.func10, Tryd.ntmps10
    go_wp2_with fail
    refine HS.out.mono ?_
    rintro e w1 ⟨rfl, hB1⟩
    go_wp2
    go_ret
    exact ⟨rfl, hB1⟩
  have hb1i : (xs.length : Int) ≤ 50 := by omega
  have hl50 : xs.length ≤ 50 := by omega
  clear hb1
  go_enter Tryd.func10, Tryd.ntmps10
  go_wp2_with fail
  refine HS.out.mono ?_
  rintro e w1 ⟨rfl, hB1⟩
  have HL1 := hid' hB1
  clear hB1
  go_wp2
  go_loopw [3, 5, 21] (fun v3 v5 v21 wr => ∃ k : Nat, k ≤ xs.length ∧ v21 = .int .i64 k ∧ v3 = .string (strOf (linesL (xs.take k))) ∧ (∀ x ∈ xs.take k, x.size ≤ 200) ∧ Below w.heap.size w wr) (fun _ _ v21 _ => xs.length - (intOf v21).toNat)
  case atStart => exact ⟨0, Nat.zero_le _, rfl, rfl, fun x hx => by simp at hx, HL1.out⟩
  case round =>
    obtain ⟨k, hk, rfl, rfl, hz, hL⟩ := hrel
    have HZ := hid' hz
    have HL := hid' hL
    have hlen := linesL_len hz
    rw [List.length_take] at hlen
    obtain ⟨p, hp⟩ : ∃ p, p = strOf (linesL (xs.take k)) := ⟨_, rfl⟩
    have hps : p.size ≤ 10050 := by rw [hp]; show (linesL (xs.take k)).length ≤ _; omega
    rw [← hp]
    have HPP := hid' hp
    by_cases hlt : k < xs.length
    · have hlti : (k : Int) < (xs.length : Int) := by omega
      obtain ⟨ad, x, rfl, hx, hcell⟩ := (HR.out.below hL).at_ hlt
      have HX := hid' hx
      have hxm := HWF.out x (List.mem_of_getElem? hx)
      unfold maxLen at hxm
      by_cases hbx : 200 < x.size
      · have hbxi : (200 : Int) < (x.size : Int) := by omega
        clear hz hL hlen hp hx
        go_wp2
        go_ret
        exact ⟨rfl, HL.out⟩
      · have hbxi : (x.size : Int) ≤ 200 := by omega
        have hnext : p ++ (x ++ (⟨#[10]⟩ : ByteArray)) = strOf (linesL (xs.take (k + 1))) := by
          rw [hp, linesL_take hx, ← strN_app]
          congr 1
        have HNX := hid' hnext
        have h1 : x.size + 1 ≤ 9223372036854775807 := by omega
        have h2 : p.size + (x.size + 1) ≤ 9223372036854775807 := by omega
        have h3 : p.size + (x ++ (⟨#[10]⟩ : ByteArray)).size ≤ 9223372036854775807 := by rw [ByteArray.size_append]; exact h2
        have HBX := hid' (show x.size ≤ 200 by omega)
        clear hz hL hlen hp hx hnext hbx
        go_wp2
        go_roundw
        case rel => exact ⟨k + 1, by omega, by go_num, by rw [← HNX.out], fun y hy => by
          rw [List.take_add_one, HX.out] at hy
          rcases List.mem_append.1 hy with h | h
          · exact HZ.out y h
          · simp at h; subst h; exact HBX.out, HL.out⟩
        case measure => (simp only [intOf]; omega)
    · obtain rfl : k = xs.length := by omega
      rw [List.take_length] at HPP
      have hz2 : ∀ x ∈ xs, x.size ≤ 10000 := fun x hx => by have := hz x (by rw [List.take_length]; exact hx); omega
      have HZ2 := hid' hz2
      have HPA := hid' (config_Parse A c xs wr (HR.out.below hL) (by omega) hlc hz2 (HP.out.below hL) (HE.out.below hL) (HM.out.below hL))
      clear hz hL hlen hp hz2
      go_wp2_with fail
      refine HPA.out.mono ?_
      rintro e w2 ⟨hcase, hB2⟩
      have HL2 := hid' (bel_then HL.out hB2)
      clear hB2
      rcases hcase with ⟨hb0, rfl⟩ | ⟨hb0, x, l, a, b, v, hxs, hh, rfl, hown, hok⟩
      · -- a line that is none
        have hble := bad_le xs
        obtain ⟨bd, hbd⟩ : ∃ bd, bd = parseBad xs := ⟨_, rfl⟩
        rw [← hbd] at hb0 hble ⊢
        have hK := Blk.new_ w2 45 #[.slice none 0 0, .int .i64 0, .int .i64 0]
        have HSM := hid' (fun W => ref19_Same none none 0 0 [] 0 0 W (fun j x h => by simp at h) (fun j x h => by simp at h) (by simp))
        have hbdi : (1 : Int) ≤ (bd : Int) := by omega
        have hbdi0 : ((bd : Int) == 0) = false := by rw [beq_eq_false_iff_ne]; omega
        have hmax : max (xs.length : Int) 1 = ((max xs.length 1 : Nat) : Int) := by omega
        have hbdm : (bd : Int) ≤ ((max xs.length 1 : Nat) : Int) := by omega
        generalize max xs.length 1 = mx at *
        have HLa := hid' (bel_alloc HL2.out (.cells #[.slice none 0 0, .int .i64 0, .int .i64 0] 45))
        clear hK
        by_cases h1 : bd = 1
        · have h1i : ((bd : Int) == 1) = true := by rw [h1]; rfl
          clear hb0 hble hbd h1
          go_wp2_with fail
          refine (HSM.out _).mono ?_
          rintro e w3 ⟨rfl, hB3⟩
          go_wp2
          go_ret
          exact ⟨rfl, bel_then HLa.out hB3⟩
        · have h1i : ((bd : Int) == 1) = false := by rw [beq_eq_false_iff_ne]; omega
          obtain ⟨g1, g2, g3, g4⟩ := bad_parts (xs := xs) (by rw [← hbd]; exact hb0) (by rw [← hbd]; exact h1)
          rw [← hbd] at g1 g2 g3 g4
          obtain ⟨b1, hb1⟩ : ∃ b1, b1 = bd - 1 := ⟨_, rfl⟩
          rw [← hb1] at g3
          have hbi1 : (bd : Int) - 1 = (b1 : Int) := by omega
          have hcut1 := cut_h (P := Tryd.prog) 50 9 1 Tryd.underlying50 (by kernel_rfl) A xs.length c b1 (by omega)
          have hcut2 := cut_h (P := Tryd.prog) 50 9 1 Tryd.underlying50 (by kernel_rfl) A xs.length c bd (by omega)
          have HA1 := hid' (fun W (hB : Below w.heap.size w W) => parse_any A c b1 (xs.take b1) W (by rw [List.length_take]; omega) (rd_takeS (HR.out.below hB) b1) (by omega) (by omega) (fun y hy => HZ2.out y (List.mem_of_mem_take hy)) (HP.out.below hB) (HE.out.below hB) (HM.out.below hB))
          have HA2 := hid' (fun W (hB : Below w.heap.size w W) => parse_any A c bd (xs.take bd) W (by rw [List.length_take]; omega) (rd_takeS (HR.out.below hB) bd) (by omega) (by omega) (fun y hy => HZ2.out y (List.mem_of_mem_take hy)) (HP.out.below hB) (HE.out.below hB) (HM.out.below hB))
          rw [g3] at HA1
          rw [g4] at HA2
          have dbb : ((bd : Int) == (bd : Int)) = true := by simp
          clear hb0 hble hbd h1 g1 g2 g3 g4 hb1
          go_wp2_with fail
          refine (HSM.out _).mono ?_
          rintro e w3 ⟨rfl, hB3⟩
          have HL3 := hid' (bel_then HLa.out hB3)
          clear hB3
          go_wp2_with fail
          refine (HA1.out _ HL3.out).mono ?_
          rintro e w4 ⟨⟨A', n', c', a', b', rfl⟩, hB4⟩
          have HL4 := hid' (bel_alloc (bel_then HL3.out hB4) (.cells #[.slice A' n' c', .int .i64 a', .int .i64 b'] 45))
          clear hB4
          go_wp2_with fail
          refine (HA2.out _ HL4.out).mono ?_
          rintro e w5 ⟨⟨A2, n2, c2, a2, b2, rfl⟩, hB5⟩
          have HL5 := hid' (bel_alloc (bel_then HL4.out hB5) (.cells #[.slice A2 n2 c2, .int .i64 a2, .int .i64 b2] 45))
          clear hB5
          go_wp2
          go_ret
          exact ⟨rfl, HL5.out⟩
      · -- all lines say something
        subst hxs
        obtain ⟨A', c', rfl, _, _, hrd⟩ := own_rd hown
        rw [rlRows_map] at hrd
        have HRS := hid' (rd_rlS hrd)
        have htxt := cfg_lines hh hok
        obtain ⟨_, ha, hb⟩ := headP_some hh
        have hlen2 : (l.map rvP).length = l.length := List.length_map ..
        have hll : l.length ≤ 50 := by simp at hl50; omega
        have hri : ∀ r ∈ l.map rvP, rlI r := fun r hr => by
          obtain ⟨y, hy, rfl⟩ := List.mem_map.1 hr
          exact (rok_facts (hok y hy)).2.2
        have hro : ∀ r ∈ l.map rvP, rlO r = true := fun r hr => by
          obtain ⟨y, hy, rfl⟩ := List.mem_map.1 hr
          exact (rok_facts (hok y hy)).2.1
        obtain ⟨rs, hrs⟩ : ∃ rs, rs = l.map rvP := ⟨_, rfl⟩
        rw [← hrs] at HRS htxt hlen2 hri hro
        have HPR := hid' (fun W (h : RdS W A' 5 fRl rs) => ref19_Print A' c' rs a b W h (by omega) hri ha hb)
        rw [htxt, hlen2, ← HPP.out] at HPR
        have HRO := hid' hro
        have hN : ((x :: l).length : Int) = (l.length : Int) + 1 := by rw [List.length_cons]; omega
        have hK := Blk.new_ w2 45 #[.slice A' l.length c', .int .i64 a, .int .i64 b]
        have hba := bel_alloc (bel_refl w2) (.cells #[.slice A' l.length c', .int .i64 a, .int .i64 b] 45)
        have HKa := hid' hK
        have HLa := hid' (bel_then HL2.out hba)
        have HRa := hid' (HRS.out.below hba)
        generalize hNN : (x :: l).length = N at *
        have hNi1 : (N : Int) - 1 = (l.length : Int) := by omega
        have hNi0 : (0 : Int) < (N : Int) := by omega
        have hll2 : l.length ≤ 9223372036854775807 := by omega
        clear hown hrd htxt hok hh hri hro hrs hK hba ha hb hb0
        go_wp2
        generalize hb6 : w2.heap.size = b6 at *
        go_loopw [9, 43] (fun v9 v43 wr => ∃ k : Nat, k ≤ l.length ∧ v43 = .int .i64 k ∧ Blk wr b6 45 #[.slice A' l.length c', .int .i64 a, .int .i64 b] ∧ RdS wr A' 5 fRl rs ∧ Below w.heap.size w wr) (fun _ v43 _ => l.length - (intOf v43).toNat)
        case atStart => exact ⟨0, Nat.zero_le _, rfl, HKa.out, HRa.out, HLa.out⟩
        case round =>
          obtain ⟨k, hk, rfl, hK, hR, hL⟩ := hrel
          have HK := hid' hK
          have HRR := hid' hR
          have HL := hid' hL
          by_cases hlt : k < l.length
          · have hlti : (k : Int) < (l.length : Int) := by omega
            obtain ⟨ad, r0, r1, r2, r3, r4, rfl, hx, c0, c1, c2, c3, c4⟩ := hR.at5 (k := k) (by omega)
            have hon := HRO.out _ (List.mem_of_getElem? hx)
            have hba := bel_alloc (bel_refl wr) (.cells #[.int .i64 r0, .int .i64 r1, .int .i64 r2, .int .i64 r3, .int .i64 r4] 54)
            have HLb := hid' (bel_then HL.out hba)
            have HKb := hid' (HK.out.below hba)
            have HRb := hid' (HRR.out.below hba)
            have HON := hid' (fun W => ref19_Only r0 r1 r2 r3 r4 W)
            unfold ruleV at HON
            rw [show onlyB r0 r1 r2 r3 r4 = true from hon] at HON
            clear hK hR hL hx hon hba
            go_wp2_with fail
            refine (HON.out _).mono ?_
            rintro e w3 ⟨rfl, hB3⟩
            go_wp2
            go_roundw
            case rel => exact ⟨k + 1, by omega, by go_num, HKb.out.below hB3, HRb.out.below hB3, bel_then HLb.out hB3⟩
            case measure => (simp only [intOf]; omega)
          · obtain rfl : k = l.length := by omega
            have c0 : wr.cell? ⟨b6, 0, none⟩ = some (.slice A' l.length c') := by simpa using hK.cell 0
            have c1 : wr.cell? ⟨b6, 1, none⟩ = some (.int .i64 a) := by simpa using hK.cell 1
            have c2 : wr.cell? ⟨b6, 2, none⟩ = some (.int .i64 b) := by simpa using hK.cell 2
            clear hK hR hL
            go_wp2_with fail
            refine (HPR.out wr HRR.out).mono ?_
            rintro e w3 ⟨rfl, hB3⟩
            have c0 : w3.cell? ⟨b6, 0, none⟩ = some (.slice A' l.length c') := by simpa using (HK.out.below hB3).cell 0
            go_wp2
            go_ret
            exact ⟨rfl, bel_then HL.out hB3⟩
end Go.Proofs.YthdblloiapadkaaDoor
