
/- A rule read from a line (config.rule), walked. No condition but the tables and variables of Go's own library. -/
import Derived.Test.YthdblloiapadkaaDoorConfigPureB
import Derived.BigRegion
namespace Go.Proofs.YthdblloiapadkaaDoor
set_option maxRecDepth 100000
set_option linter.unusedSimpArgs false
open Go.RowKit
set_option linter.unusedVariables false
set_option linter.unusedSimpArgs false

theorem splitW (c : UInt8) (s sep : ByteArray) (w : World) (hsep : sep = ⟨#[c]⟩) (hs : s.size ≤ 1000000) (hM : MaxT w) :
    ∃ H T, bL H :: T.map bL = spl c (bL s) ∧ Calls Tryd.prog 45 #[.string s, .string sep] w fun e w' => e = .returned (.slice (some ⟨w.heap.size, 0, none⟩) (T.length + 1) (T.length + 1)) ∧ w' = w.alloc (.cells ((H :: T).map Value.string).toArray 9) := by
  obtain ⟨m, hm⟩ := hM
  subst hsep
  have h := Tryd.strings_Split s ⟨#[c]⟩ m w (by omega) hm (by show 1 ≤ 1; omega)
  have h1 := splitB_spl c s
  have h2 := Lib.splitB_all ⟨#[c]⟩ (by show 1 ≤ 1; omega) 0 _ s rfl
  cases hS : Lib.splitB ⟨#[c]⟩ 0 (Lib.countB s ⟨#[c]⟩) s with
  | nil => rw [hS] at h2; simp at h2
  | cons H T =>
    rw [hS] at h h1 h2
    have h3 : Lib.countB s ⟨#[c]⟩ = T.length := by simp at h2; omega
    rw [h3] at h
    exact ⟨H, T, by rw [← h1]; rfl, h⟩
theorem rdOk_w (x : ByteArray) : rdOk x = wOk (bL x) := rfl
theorem rdV_w (x : ByteArray) : rdV x = wV (bL x) := rfl
theorem numsOk_w (T : List ByteArray) : numsOk T = (T.map bL).all wOk := by
  unfold numsOk; rw [List.all_map]; rfl
theorem numsV_w (T : List ByteArray) : (T.map fun x => iV (rdV x)) = ((T.map bL).map wV).map iV := by
  rw [List.map_map, List.map_map]; rfl
def rlVal (r : Rl) : Value := .agg #[.int .i64 r.1, .int .i64 r.2.1, .int .i64 r.2.2.1, .int .i64 r.2.2.2.1, .int .i64 r.2.2.2.2]
def rlRes (o : Option Rl) : Value := match o with | some r => rlVal r | none => .agg #[.int .i64 0, .int .i64 0, .int .i64 0, .int .i64 0, .int .i64 0]
set_option maxHeartbeats 16000000 in
theorem config_rule (s : ByteArray) (w : World) (hs : s.size ≤ 10000) (hP : PowT w) (hE : ErV w) (hM : MaxT w) :
    Calls Tryd.prog 65 #[.string s] w fun e w' => e = .returned (.tuple #[rlRes (ruleP (bL s)), .bool (ruleP (bL s)).isSome]) ∧ Below w.heap.size w w' := by
  have HP := hid' hP
  have HE := hid' hE
  have HL0 := hid' (bel_alloc (bel_refl w) (.cells #[.int .i64 0, .int .i64 0, .int .i64 0, .int .i64 0, .int .i64 0] 54))
  have HK0 := hid' (Blk.new_ w 54 #[.int .i64 0, .int .i64 0, .int .i64 0, .int .i64 0, .int .i64 0])
  obtain ⟨H, T, hsp, hcall⟩ := splitW 32 s ⟨#[32]⟩ (w.alloc (.cells #[.int .i64 0, .int .i64 0, .int .i64 0, .int .i64 0, .int .i64 0] 54)) rfl (by omega) (hM.below (bel_alloc (bel_refl w) _))
  have HC := hid' hcall
  have hTl : T.length ≤ 10000 := by
    have h1 := spl_len 32 (bL s)
    rw [← hsp, bL_len] at h1
    simp at h1; omega
  have hTz : ∀ x ∈ T, x.size ≤ 200000 := by
    intro x hx
    have := spl_mem_len (c := 32) (l := bL s) (bL x) (by rw [← hsp]; exact List.mem_cons_of_mem _ (List.mem_map_of_mem hx))
    rw [bL_len, bL_len] at this
    omega
  have hro : ruleP (bL s) = if numsOk T = true then ruleN (bL H) ((T.map bL).map wV) else none := by
    unfold ruleP
    rw [← hsp, numsOk_w]
  have HTZ := hid' hTz
  obtain ⟨o, ho⟩ : ∃ o, o = ruleP (bL s) := ⟨_, rfl⟩
  rw [← ho] at hro ⊢
  clear hP hE hM hcall hsp ho hTz
  go_enter Tryd.func65, Tryd.ntmps65
  go_wp2_with fail
  generalize hw0 : w.alloc (.cells #[.int .i64 0, .int .i64 0, .int .i64 0, .int .i64 0, .int .i64 0] 54) = w0 at *
  refine HC.out.mono ?_
  rintro e w1 ⟨rfl, rfl⟩
  have HR1 := hid' ((Blk.new_ w0 9 ((H :: T).map Value.string).toArray).rd rfl)
  have hba := bel_alloc (bel_refl w0) (.cells ((H :: T).map Value.string).toArray 9)
  have HL1 := hid' (bel_then HL0.out hba)
  have HK1 := hid' (HK0.out.below hba)
  have hcut := cut_l (P := Tryd.prog) 50 9 1 Tryd.underlying50 (by kernel_rfl) (some ⟨w0.heap.size, 0, none⟩) (T.length + 1) (T.length + 1) 1 (by omega)
  have hrt : ∀ W, Rd W (some ⟨w0.heap.size, 0, none⟩) ((H :: T).map Value.string) → Rd W (cutA (some ⟨w0.heap.size, 0, none⟩) 1 1 (T.length + 1)) (T.map Value.string) := by
    intro W h
    have h2 := h.cut 1 1 (T.length + 1) T.length (by omega)
    have h3 : (((H :: T).map Value.string).drop (1 * 1)).take T.length = T.map Value.string := by
      show (T.map Value.string).take T.length = _
      exact List.take_of_length_le (by simp)
    rwa [h3] at h2
  have HRT := hid' hrt
  generalize hA : cutA (some ⟨w0.heap.size, 0, none⟩) 1 1 (T.length + 1) = A1 at *
  rw [Nat.add_sub_cancel] at hcut
  change ∀ W : World, (Instr.slice 50 (.slice (some ⟨w0.heap.size, 0, none⟩) (T.length + 1) (T.length + 1)) (some (.int .i64 1)) none none).run Tryd.prog W = .ok (.slice A1 T.length T.length) W at hcut
  generalize hW1 : w0.alloc (.cells ((H :: T).map Value.string).toArray 9) = w1 at *
  clear hba hrt hA hW1 HL0 HK0 HC
  go_wp2_with fail
  have hNU := config_Numbers A1 T.length T w1 (HRT.out _ HR1.out) (by omega) HTZ.out (HP.out.below HL1.out) (HE.out.below HL1.out)
  refine hNU.mono ?_
  rintro e w2 ⟨hcase, hB2⟩
  have HL2 := hid' (bel_then HL1.out hB2)
  have HK2 := hid' (HK1.out.below hB2)
  have HR2 := hid' (HR1.out.below hB2)
  have c0 : w2.cell? ⟨w.heap.size, 0, none⟩ = some (.int .i64 0) := by simpa using HK2.out.cell 0
  have c1 : w2.cell? ⟨w.heap.size, 1, none⟩ = some (.int .i64 0) := by simpa using HK2.out.cell 1
  have c2 : w2.cell? ⟨w.heap.size, 2, none⟩ = some (.int .i64 0) := by simpa using HK2.out.cell 2
  have c3 : w2.cell? ⟨w.heap.size, 3, none⟩ = some (.int .i64 0) := by simpa using HK2.out.cell 3
  have c4 : w2.cell? ⟨w.heap.size, 4, none⟩ = some (.int .i64 0) := by simpa using HK2.out.cell 4
  have f0 := HK2.out.frozen 0
  have f1 := HK2.out.frozen 1
  have f2 := HK2.out.frozen 2
  have f3 := HK2.out.frozen 3
  have f4 := HK2.out.frozen 4
  have hsh := HK2.out.shape
  obtain ⟨ad0, hA0, hH⟩ := HR2.out 0 _ rfl
  injection hA0 with hA0
  subst hA0
  change w2.cell? ⟨w0.heap.size, 0, none⟩ = some (.string H) at hH
  have hT0 : (0 : Int) < (T.length : Int) + 1 := by omega
  clear hB2 hNU hcut hw0 hTl HTZ HRT HR1 HL1 HK1 HP HE HR2
  rcases hcase with ⟨hk, v, rfl, hown⟩ | ⟨hk, rfl⟩
  · rw [hk, if_pos rfl] at hro
    rw [numsV_w] at hown
    obtain ⟨A, c, rfl, hc1, hc2, hrd⟩ := own_rd hown
    have hnl : ((T.map bL).map wV).length = T.length := by simp
    generalize (T.map bL).map wV = nums at *
    clear hk hown hc1 hc2
    by_cases hw1 : H = strOf wBounded
    · have hm1 : H.toList = [98, 111, 117, 110, 100, 101, 100] := by rw [hw1]; exact ByteArray.toList_eq _
      have hb : bL H = wBounded := by rw [hw1]; rfl
      rw [hb] at hro
      by_cases hl1 : T.length = 1
      · obtain ⟨a, rfl⟩ := len1 (hnl.trans hl1)
        have hro2 : o = some (0, a, 0, 0, 0) := by rw [hro]; rfl
        obtain ⟨ad, rfl, hcell⟩ := hrd 0 _ rfl
        change w2.cell? ad = some (.int .i64 a) at hcell
        have hl1i : ((T.length : Int) == 1) = true := by rw [hl1]; rfl
        have hl0 : (0 : Int) < (T.length : Int) := by omega
        subst hro2
        clear hro hw1 hb hrd
        go_wp2
        refine bodyPost_ret (v := .tuple #[rlRes (some (0, a, 0, 0, 0)), .bool true]) ?_ rfl ⟨rfl, ?_⟩
        · rw [results_cell_tmp rfl]; (try unfold rlRes rlVal); go_simp
        · repeat (first | exact HL2.out | exact bel_drew HL2.out | refine bel_set ?_ (by exact Nat.le_refl _) _ | refine bel_drew ?_)
      · have hl1i : ((T.length : Int) == 1) = false := by rw [beq_eq_false_iff_ne]; omega
        have hro2 : o = none := by rw [hro]; unfold ruleN; rw [if_neg (by rw [hnl]; exact fun h => hl1 h.2), if_neg (fun h => absurd h.1 (by decide)), if_neg (fun h => absurd h.1 (by decide))]
        subst hro2
        clear hro hw1 hb hrd
        go_wp2
        refine bodyPost_ret (v := .tuple #[rlRes none, .bool false]) ?_ rfl ⟨rfl, ?_⟩
        · rw [results_cell_tmp rfl]; (try unfold rlRes rlVal); go_simp
        · repeat (first | exact HL2.out | exact bel_drew HL2.out | refine bel_set ?_ (by exact Nat.le_refl _) _ | refine bel_drew ?_)
    · have hn1 : (H.toList == [98, 111, 117, 110, 100, 101, 100]) = false := by have h := strNe (b := strOf wBounded) hw1; rwa [show (strOf wBounded).toList = [98, 111, 117, 110, 100, 101, 100] from ByteArray.toList_eq _] at h
      have hb1 : bL H ≠ wBounded := fun h => hw1 (bL_inj (by rw [bL_str]; exact h))
      by_cases hw2 : H = strOf wMarked
      · have hm1 : H.toList = [109, 97, 114, 107, 101, 100] := by rw [hw2]; exact ByteArray.toList_eq _
        have hb : bL H = wMarked := by rw [hw2]; rfl
        rw [hb] at hro
        by_cases hl1 : T.length = 1
        · obtain ⟨a, rfl⟩ := len1 (hnl.trans hl1)
          have hro2 : o = some (1, 0, 0, 0, a) := by rw [hro]; rfl
          obtain ⟨ad, rfl, hcell⟩ := hrd 0 _ rfl
          change w2.cell? ad = some (.int .i64 a) at hcell
          have hl1i : ((T.length : Int) == 1) = true := by rw [hl1]; rfl
          have hl0 : (0 : Int) < (T.length : Int) := by omega
          subst hro2
          clear hro hw1 hw2 hb hb1 hrd
          go_wp2
          refine bodyPost_ret (v := .tuple #[rlRes (some (1, 0, 0, 0, a)), .bool true]) ?_ rfl ⟨rfl, ?_⟩
          · rw [results_cell_tmp rfl]; (try unfold rlRes rlVal); go_simp
          · repeat (first | exact HL2.out | exact bel_drew HL2.out | refine bel_set ?_ (by exact Nat.le_refl _) _ | refine bel_drew ?_)
        · have hl1i : ((T.length : Int) == 1) = false := by rw [beq_eq_false_iff_ne]; omega
          have hro2 : o = none := by rw [hro]; unfold ruleN; rw [if_neg (fun h => absurd h.1 (by decide)), if_neg (by rw [hnl]; exact fun h => hl1 h.2), if_neg (fun h => absurd h.1 (by decide))]
          subst hro2
          clear hro hw1 hw2 hb hb1 hrd
          go_wp2
          refine bodyPost_ret (v := .tuple #[rlRes none, .bool false]) ?_ rfl ⟨rfl, ?_⟩
          · rw [results_cell_tmp rfl]; (try unfold rlRes rlVal); go_simp
          · repeat (first | exact HL2.out | exact bel_drew HL2.out | refine bel_set ?_ (by exact Nat.le_refl _) _ | refine bel_drew ?_)
      · have hn2 : (H.toList == [109, 97, 114, 107, 101, 100]) = false := by have h := strNe (b := strOf wMarked) hw2; rwa [show (strOf wMarked).toList = [109, 97, 114, 107, 101, 100] from ByteArray.toList_eq _] at h
        have hb2 : bL H ≠ wMarked := fun h => hw2 (bL_inj (by rw [bL_str]; exact h))
        by_cases hw3 : H = strOf wPercent
        · have hm1 : H.toList = [112, 101, 114, 99, 101, 110, 116] := by rw [hw3]; exact ByteArray.toList_eq _
          have hb : bL H = wPercent := by rw [hw3]; rfl
          rw [hb] at hro
          by_cases hl2 : T.length = 2
          · obtain ⟨a, b, rfl⟩ := len2 (hnl.trans hl2)
            have hro2 : o = some (2, 0, a, b, 0) := by rw [hro]; rfl
            obtain ⟨ad, rfl, hcell⟩ := hrd 0 _ rfl
            change w2.cell? ad = some (.int .i64 a) at hcell
            obtain ⟨ad', hA', hcell'⟩ := hrd 1 _ rfl
            injection hA' with hA'
            subst hA'
            change w2.cell? ⟨ad.block, ad.off + 1, none⟩ = some (.int .i64 b) at hcell'
            have hl1i : ((T.length : Int) == 2) = true := by rw [hl2]; rfl
            have hl0 : (0 : Int) < (T.length : Int) := by omega
            have hl1' : (1 : Int) < (T.length : Int) := by omega
            subst hro2
            clear hro hw1 hw2 hw3 hb hb1 hb2 hrd
            go_wp2
            go_region
            go_wp2
            refine bodyPost_ret (v := .tuple #[rlRes (some (2, 0, a, b, 0)), .bool true]) ?_ rfl ⟨rfl, ?_⟩
            · rw [results_cell_tmp rfl]; (try unfold rlRes rlVal); go_simp
            · repeat (first | exact HL2.out | exact bel_drew HL2.out | refine bel_set ?_ (by exact Nat.le_refl _) _ | refine bel_drew ?_)
          · have hl1i : ((T.length : Int) == 2) = false := by rw [beq_eq_false_iff_ne]; omega
            have hro2 : o = none := by rw [hro]; unfold ruleN; rw [if_neg (fun h => absurd h.1 (by decide)), if_neg (fun h => absurd h.1 (by decide)), if_neg (by rw [hnl]; exact fun h => hl2 h.2)]
            subst hro2
            clear hro hw1 hw2 hw3 hb hb1 hb2 hrd
            go_wp2
            refine bodyPost_ret (v := .tuple #[rlRes none, .bool false]) ?_ rfl ⟨rfl, ?_⟩
            · rw [results_cell_tmp rfl]; (try unfold rlRes rlVal); go_simp
            · repeat (first | exact HL2.out | exact bel_drew HL2.out | refine bel_set ?_ (by exact Nat.le_refl _) _ | refine bel_drew ?_)
        · have hn3 : (H.toList == [112, 101, 114, 99, 101, 110, 116]) = false := by have h := strNe (b := strOf wPercent) hw3; rwa [show (strOf wPercent).toList = [112, 101, 114, 99, 101, 110, 116] from ByteArray.toList_eq _] at h
          have hb3 : bL H ≠ wPercent := fun h => hw3 (bL_inj (by rw [bL_str]; exact h))
          have hro2 : o = none := by rw [hro]; unfold ruleN; rw [if_neg (fun h => hb1 h.1), if_neg (fun h => hb2 h.1), if_neg (fun h => hb3 h.1)]
          subst hro2
          clear hro hw1 hw2 hw3 hb1 hb2 hb3 hrd
          go_wp2
          refine bodyPost_ret (v := .tuple #[rlRes none, .bool false]) ?_ rfl ⟨rfl, ?_⟩
          · rw [results_cell_tmp rfl]; (try unfold rlRes rlVal); go_simp
          · repeat (first | exact HL2.out | exact bel_drew HL2.out | refine bel_set ?_ (by exact Nat.le_refl _) _ | refine bel_drew ?_)
  · rw [hk, if_neg (by decide)] at hro
    subst hro
    clear hk
    go_wp2
    refine bodyPost_ret (v := .tuple #[rlRes none, .bool false]) ?_ rfl ⟨rfl, ?_⟩
    · rw [results_cell_tmp rfl]; (try unfold rlRes rlVal); go_simp
    · repeat (first | exact HL2.out | exact bel_drew HL2.out | refine bel_set ?_ (by exact Nat.le_refl _) _ | refine bel_drew ?_)
end Go.Proofs.YthdblloiapadkaaDoor
