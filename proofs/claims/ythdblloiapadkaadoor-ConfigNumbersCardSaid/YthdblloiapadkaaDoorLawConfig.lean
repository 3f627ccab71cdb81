
/- The laws of configurations: numbers, walked. No condition but the tables and variables of Go's own library. -/
import Derived.Test.YthdblloiapadkaaDoorConfigI
import Derived.Test.YthdblloiapadkaaDoorOpen
namespace Go.Proofs.YthdblloiapadkaaDoor
set_option maxRecDepth 100000
set_option linter.unusedSimpArgs false
open Go.RowKit
set_option linter.unusedVariables false
set_option linter.unusedSimpArgs false

theorem rd_num {n : Int} (h : I64 n) : rdOk (numT n) = true ∧ rdV (numT n) = n := by
  unfold rdOk rdV numT
  rw [bL_str, rdN_itoa h]
  exact ⟨rfl, rfl⟩
theorem nums_all {l : List Int} (h : ∀ n ∈ l, I64 n) : numsOk (l.map numT) = true ∧ ((l.map numT).map fun x => iV (rdV x)) = l.map iV := by
  constructor
  · unfold numsOk
    rw [List.all_eq_true]
    intro x hx
    obtain ⟨n, hn, rfl⟩ := List.mem_map.1 hx
    exact (rd_num (h n hn)).1
  · rw [List.map_map]
    apply List.map_congr_left
    intro n hn
    show iV (rdV (numT n)) = iV n
    rw [(rd_num (h n hn)).2]
theorem strOne (s : ByteArray) : ∀ u ∈ [(.string s : Value)], u.oneCell' = true := by
  intro u hu; rw [List.mem_singleton] at hu; subst hu; rfl
set_option maxHeartbeats 16000000 in
theorem configNumbers (A : Option Addr) (c : Nat) (l : List Int) (word : ByteArray) (w : World) (hr : Rd w A (l.map (.int .i64))) (hwf : ∀ x ∈ l, (Lit.int .i64 x).wf = true) (hl : l.length ≤ maxLen) (hw : word.size ≤ maxLen) (hP : PowT w) (hE : ErV w) (hM : MaxT w) :
    Calls Tryd.prog 11 #[.slice A l.length c, .string word] w fun e w' => e = .returned (.bool true) ∧ Below w.heap.size w w' := by
  have hI : ∀ n ∈ l, I64 n := fun n hn => I64.of_wf (hwf n hn)
  have HS := hid' (speaks19 w hP hE hM)
  have HP := hid' hP
  have HE := hid' hE
  have HR := hid' hr
  have hlm : l.length ≤ 9223372036854775807 := by unfold maxLen at hl; omega
  have hwm : word.size ≤ 9223372036854775807 := by unfold maxLen at hw; omega
  clear hP hE hM hr hwf hl hw
  by_cases hb1 : 50 < l.length
  · have hb1i : (50 : Int) < (l.length : Int) := by omega
    go_enter Tryd.func11, Tryd.ntmps11
    go_wp2_with fail
    refine HS.out.mono ?_
    rintro e w1 ⟨rfl, hB1⟩
    go_wp2
    go_ret
    exact ⟨rfl, hB1⟩
  by_cases hb2 : 100 < word.size
  · have hb2i : (100 : Int) < (word.size : Int) := by omega
    have hb1i : (l.length : Int) ≤ 50 := by omega
    go_enter Tryd.func11, Tryd.ntmps11
    go_wp2_with fail
    refine HS.out.mono ?_
    rintro e w1 ⟨rfl, hB1⟩
    go_wp2
    go_ret
    exact ⟨rfl, hB1⟩
  have hb1i : (l.length : Int) ≤ 50 := by omega
  have hb2i : (word.size : Int) ≤ 100 := by omega
  have hl50 : l.length ≤ 50 := by omega
  obtain ⟨hna, hnv⟩ := nums_all hI
  have HNA := hid' hna
  have HNV := hid' hnv
  have HI := hid' hI
  clear hb1 hb2 hna hnv
  go_enter Tryd.func11, Tryd.ntmps11
  go_wp2_with fail
  refine HS.out.mono ?_
  rintro e w1 ⟨rfl, hB1⟩
  have HL1 := hid' hB1
  have HO1 := hid' (World.ownsRow_nil w1 w.heap.size 9 1)
  clear hB1
  go_wp2
  go_loopw [5, 7, 24] (fun v5 v7 v24 wr => ∃ k : Nat, k ≤ l.length ∧ v24 = .int .i64 k ∧ wr.ownsRow w.heap.size 9 1 v5 k ((l.take k).map fun n => .string (numT n)) ∧ Below w.heap.size w wr) (fun _ _ v24 _ => l.length - (intOf v24).toNat)
  case atStart => exact ⟨0, Nat.zero_le _, rfl, HO1.out, HL1.out⟩
  case round =>
    obtain ⟨k, hk, rfl, hown, hL⟩ := hrel
    have HO := hid' hown
    have HL := hid' hL
    by_cases hlt : k < l.length
    · have hlti : (k : Int) < (l.length : Int) := by omega
      obtain ⟨ad, n, rfl, hx, hcell⟩ := (HR.out.below hL).at_ hlt
      have HX := hid' hx
      have hn := HI.out n (List.mem_of_getElem? hx)
      have HNM := hid' (ref19_Num n wr hn)
      clear hown hL hx
      go_wp2_with fail
      refine HNM.out.mono ?_
      rintro e w2 ⟨rfl, hB2⟩
      have HO2 := hid' (own_below HO.out hB2)
      have HL2 := hid' (bel_then HL.out hB2)
      have hbase := HL2.out.size
      have h8 : (k + 1) * 16 ≤ 140737488355328 := by omega
      have hone := hid' (strOne (numT n))
      clear hB2
      go_wp2_with (at_builtin; (refine ap_cells w.heap.size rfl (.tmp 28) (.tmp 31) 50 9 (.string ⟨#[]⟩) 1 16 rfl (by kernel_rfl) (by kernel_rfl) rfl (by decide) (by decide) _ k ((l.take k).map fun n => .string (numT n)) [.string (numT n)] rfl (by rfl) rfl hone.out HO2.out hbase h8 ?_); intro v1 w4 hown hg hat)
      go_roundw
      case rel => exact ⟨k + 1, by omega, by go_num, by
        have : (l.take (k + 1)).map (fun n => Value.string (numT n)) = (l.take k).map (fun n => .string (numT n)) ++ [.string (numT n)] := by
          rw [List.take_add_one, HX.out, List.map_append]; rfl
        rw [this]; exact hown, bel_mod HL2.out (Mod.of_grown hg) (fun j hj e => by have := own_base' HO2.out j e; omega)⟩
      case measure => (simp only [intOf]; omega)
    · obtain rfl : k = l.length := by omega
      rw [List.take_length] at HO
      obtain ⟨A5, c5, rfl, hc51, hc52, hrd5⟩ := own_rd HO.out
      have hmm : (l.map fun n => Value.string (numT n)) = (l.map numT).map .string := by rw [List.map_map]; rfl
      rw [hmm] at hrd5 HO
      have hzs : ∀ x ∈ l.map numT, x.size ≤ 200000 := by
        intro x hx
        obtain ⟨n, hn, rfl⟩ := List.mem_map.1 hx
        have := numT_size (HI.out n hn); omega
      have HZS := hid' hzs
      have hN1 := config_Numbers A5 c5 (l.map numT) wr hrd5 (by simp; omega) hzs (HP.out.below hL) (HE.out.below hL)
      rw [List.length_map] at hN1
      have HN1 := hid' hN1
      clear hown hL hrd5 hmm hzs hN1
      go_wp2_with fail
      refine HN1.out.mono ?_
      rintro e w2 ⟨hcase, hB2⟩
      rcases hcase with ⟨_, v8, rfl, hown8⟩ | ⟨hbad, _⟩
      · have H8B := hid' (fun k hk => own_base' hown8 k hk)
        obtain ⟨A8, c8, rfl, hc81, hc82, hrd8⟩ := own_rd hown8
        rw [HNV.out] at hrd8
        have HRD8 := hid' hrd8
        have HO2 := hid' (own_below HO.out hB2)
        have HL2 := hid' (bel_then HL.out hB2)
        have hbase := HL2.out.size
        have h8 : (l.length + 1) * 16 ≤ 140737488355328 := by omega
        have hone := hid' (strOne word)
        rw [List.length_map] at hown8 hc81
        clear hB2 hown8 hrd8
        go_wp2_with (at_builtin; (refine ap_cells w.heap.size rfl (.tmp 40) (.tmp 42) 50 9 (.string ⟨#[]⟩) 1 16 rfl (by kernel_rfl) (by kernel_rfl) rfl (by decide) (by decide) _ l.length ((l.map numT).map .string) [.string word] rfl (by rfl) rfl hone.out HO2.out hbase h8 ?_); intro v1 w4 hown hg hat; obtain ⟨A9, c9, rfl⟩ := own_len0 hown)
        have HL4 := hid' (bel_mod HL2.out (Mod.of_grown hg) (fun j hj e => by have := own_base' HO2.out j e; omega))
        have HRD84 := hid' (show Rd w4 A8 (l.map iV) from HRD8.out.mod (Mod.of_grown hg) (fun ad ha e => by
          have h1 := own_lt' HO.out ad.block e
          have h2 := H8B.out ad.block (by rw [ha]; rfl)
          omega))
        obtain ⟨A9', c9', h9, hc91, hc92, hrd9⟩ := own_rd hown
        injection h9 with h91 h92 h93
        subst h91 h93
        have hap : (l.map numT).map Value.string ++ [.string word] = (l.map numT ++ [word]).map .string := by rw [List.map_append]; rfl
        rw [hap] at hrd9
        have hlen9 : (l.map numT ++ [word]).length = l.length + 1 := by simp
        have hN2 := config_Numbers A9 c9 (l.map numT ++ [word]) w4 hrd9 (by rw [hlen9]; omega) (by
          intro x hx
          rcases List.mem_append.1 hx with h | h
          · exact HZS.out x h
          · rw [List.mem_singleton] at h; subst h; omega) (HP.out.below HL4.out) (HE.out.below HL4.out)
        rw [hlen9] at hN2
        have hall : numsOk (l.map numT ++ [word]) = rdOk word := by
          unfold numsOk
          rw [List.all_append]
          have := HNA.out
          unfold numsOk at this
          rw [this]; simp
        have HALL := hid' hall
        refine hN2.mono ?_
        rintro e w5 ⟨hcase5, hB5⟩
        have HL5 := hid' (bel_then HL4.out hB5)
        have HRD5 := hid' (HRD84.out.below hB5)
        have hsame := ref_Same A8 A c8 c l l w5 HRD5.out (HR.out.below HL5.out) hlm hlm
        rw [decide_eq_true (rfl : l = l)] at hsame
        have HSM := hid' hsame
        rw [hall] at hcase5
        clear hown hg hat hrd9 hap hN2 hall hB5 hsame
        rcases hcase5 with ⟨hok5, v10, rfl, hown10⟩ | ⟨hok5, rfl⟩
        · obtain ⟨A10, c10, rfl, hc101, hc102, hrd10⟩ := own_rd hown10
          obtain ⟨hnum, hnI, _⟩ := rdOk_num hok5
          have hlast : ((l.map numT ++ [word]).map fun x => iV (rdV x))[l.length]? = some (iV (rdV word)) := by
            rw [List.map_append, List.getElem?_append_right (by simp)]
            simp
          obtain ⟨ad10, rfl, hc10⟩ := hrd10 _ _ hlast
          change w5.cell? (ad10.add l.length) = some (.int .i64 (rdV word)) at hc10
          have hc10' : ∀ W : World, Below w5.heap.size w5 W → W.cell? (ad10.add l.length) = some (.int .i64 (rdV word)) := fun W hB => (hB.cell (World.block_lt_of_cell? w5 _ hc10)).trans hc10
          have HC10 := hid' hc10'
          have HNM := hid' (fun W => ref19_Num (rdV word) W hnI)
          rw [hnum] at HNM
          have hi1 : (l.length : Int) < (l.length : Int) + 1 := by omega
          generalize rdV word = z at *
          clear hown10 hrd10 hlast hnum hok5 hc10 hc10'
          go_wp2_with fail
          refine HSM.out.mono ?_
          rintro e w6 ⟨rfl, hd6⟩
          have hc := HC10.out w6 hd6.below
          have HL6 := hid' (bel_then HL5.out hd6.below)
          go_wp2_with fail
          refine (HNM.out w6).mono ?_
          rintro e w7 ⟨rfl, hB7⟩
          go_wp2
          go_ret
          exact ⟨rfl, bel_then HL6.out hB7⟩
        · clear hok5
          go_wp2_with fail
          refine HSM.out.mono ?_
          rintro e w6 ⟨rfl, hd6⟩
          go_wp2
          go_ret
          exact ⟨rfl, bel_then HL5.out hd6.below⟩
      · exact absurd HNA.out (by rw [hbad]; decide)
end Go.Proofs.YthdblloiapadkaaDoor
