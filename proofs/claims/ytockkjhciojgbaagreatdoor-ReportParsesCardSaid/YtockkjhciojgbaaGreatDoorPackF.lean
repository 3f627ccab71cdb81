/- Several texts as one. No condition beyond each one's own. -/
import Derived.Test.YtockkjhciojgbaaGreatDoorPackCb
import Derived.BigRegion
import Derived.Test.YtockkjhciojgbaaGreatDoorPackQ
/- ConfigD -/
/- A rule read from a line (config.rule), walked. No condition but the tables and variables of Go's own library. -/
namespace Go.Proofs.YtockkjhciojgbaaGreatDoor
set_option maxRecDepth 100000
set_option linter.unusedSimpArgs false
open Go.RowKit
set_option linter.unusedVariables false
set_option linter.unusedSimpArgs false

theorem splitW (c : UInt8) (s sep : ByteArray) (w : World) (hsep : sep = ⟨#[c]⟩) (hs : s.size ≤ 1000000) (hM : MaxT w) :
    ∃ H T, bL H :: T.map bL = spl c (bL s) ∧ Calls Tryz.prog 14 #[.string s, .string sep] w fun e w' => e = .returned (.slice (some ⟨w.heap.size, 0, none⟩) (T.length + 1) (T.length + 1)) ∧ w' = w.alloc (.cells ((H :: T).map Value.string).toArray 9) := by
  obtain ⟨m, hm⟩ := hM
  subst hsep
  have h := Tryz.strings_Split s ⟨#[c]⟩ m w (by omega) hm (by show 1 ≤ 1; omega)
  have h1 := splitB_spl c s
  have h2 := Lib.splitB_all ⟨#[c]⟩ (by show 1 ≤ 1; omega) 0 _ s rfl
  cases hS : Lib.splitB ⟨#[c]⟩ 0 (Lib.countB s ⟨#[c]⟩) s with
  | nil => rw [hS] at h2; simp at h2
  | cons H T =>
    rw [hS] at h h1 h2
    have h3 : Lib.countB s ⟨#[c]⟩ = T.length := by simp at h2; omega
    rw [h3] at h
    exact ⟨H, T, by rw [← h1]; rfl, h⟩
theorem rdOk_w (x : ByteArray) : rdOk x = wOk (bL x) := rfl
theorem rdV_w (x : ByteArray) : rdV x = wV (bL x) := rfl
theorem numsOk_w (T : List ByteArray) : numsOk T = (T.map bL).all wOk := by
  unfold numsOk; rw [List.all_map]; rfl
theorem numsV_w (T : List ByteArray) : (T.map fun x => iV (rdV x)) = ((T.map bL).map wV).map iV := by
  rw [List.map_map, List.map_map]; rfl
def rlVal (r : Rl) : Value := .agg #[.int .i64 r.1, .int .i64 r.2.1, .int .i64 r.2.2.1, .int .i64 r.2.2.2.1, .int .i64 r.2.2.2.2]
def rlRes (o : Option Rl) : Value := match o with | some r => rlVal r | none => .agg #[.int .i64 0, .int .i64 0, .int .i64 0, .int .i64 0, .int .i64 0]
set_option maxHeartbeats 16000000 in
theorem config_rule (s : ByteArray) (w : World) (hs : s.size ≤ 10000) (hP : PowT w) (hE : ErV w) (hM : MaxT w) :
    Calls Tryz.prog 116 #[.string s] w fun e w' => e = .returned (.tuple #[rlRes (ruleP (bL s)), .bool (ruleP (bL s)).isSome]) ∧ Below w.heap.size w w' := by
  have HP := hid' hP
  have HE := hid' hE
  have HL0 := hid' (bel_alloc (bel_refl w) (.cells #[.int .i64 0, .int .i64 0, .int .i64 0, .int .i64 0, .int .i64 0] 24))
  have HK0 := hid' (Blk.new_ w 24 #[.int .i64 0, .int .i64 0, .int .i64 0, .int .i64 0, .int .i64 0])
  obtain ⟨H, T, hsp, hcall⟩ := splitW 32 s ⟨#[32]⟩ (w.alloc (.cells #[.int .i64 0, .int .i64 0, .int .i64 0, .int .i64 0, .int .i64 0] 24)) rfl (by omega) (hM.below (bel_alloc (bel_refl w) _))
  have HC := hid' hcall
  have hTl : T.length ≤ 10000 := by
    have h1 := spl_len 32 (bL s)
    rw [← hsp, bL_len] at h1
    simp at h1; omega
  have hTz : ∀ x ∈ T, x.size ≤ 200000 := by
    intro x hx
    have := spl_mem_len (c := 32) (l := bL s) (bL x) (by rw [← hsp]; exact List.mem_cons_of_mem _ (List.mem_map_of_mem hx))
    rw [bL_len, bL_len] at this
    omega
  have hro : ruleP (bL s) = if numsOk T = true then ruleN (bL H) ((T.map bL).map wV) else none := by
    unfold ruleP
    rw [← hsp, numsOk_w]
  have HTZ := hid' hTz
  obtain ⟨o, ho⟩ : ∃ o, o = ruleP (bL s) := ⟨_, rfl⟩
  rw [← ho] at hro ⊢
  clear hP hE hM hcall hsp ho hTz
  go_enter Tryz.func116, Tryz.ntmps116
  go_wp2_with fail
  generalize hw0 : w.alloc (.cells #[.int .i64 0, .int .i64 0, .int .i64 0, .int .i64 0, .int .i64 0] 24) = w0 at *
  refine HC.out.mono ?_
  rintro e w1 ⟨rfl, rfl⟩
  have HR1 := hid' ((Blk.new_ w0 9 ((H :: T).map Value.string).toArray).rd rfl)
  have hba := bel_alloc (bel_refl w0) (.cells ((H :: T).map Value.string).toArray 9)
  have HL1 := hid' (bel_then HL0.out hba)
  have HK1 := hid' (HK0.out.below hba)
  have hcut := cut_l (P := Tryz.prog) 29 9 1 Tryz.underlying29 (by kernel_rfl) (some ⟨w0.heap.size, 0, none⟩) (T.length + 1) (T.length + 1) 1 (by omega)
  have hrt : ∀ W, Rd W (some ⟨w0.heap.size, 0, none⟩) ((H :: T).map Value.string) → Rd W (cutA (some ⟨w0.heap.size, 0, none⟩) 1 1 (T.length + 1)) (T.map Value.string) := by
    intro W h
    have h2 := h.cut 1 1 (T.length + 1) T.length (by omega)
    have h3 : (((H :: T).map Value.string).drop (1 * 1)).take T.length = T.map Value.string := by
      show (T.map Value.string).take T.length = _
      exact List.take_of_length_le (by simp)
    rwa [h3] at h2
  have HRT := hid' hrt
  generalize hA : cutA (some ⟨w0.heap.size, 0, none⟩) 1 1 (T.length + 1) = A1 at *
  rw [Nat.add_sub_cancel] at hcut
  change ∀ W : World, (Instr.slice 29 (.slice (some ⟨w0.heap.size, 0, none⟩) (T.length + 1) (T.length + 1)) (some (.int .i64 1)) none none).run Tryz.prog W = .ok (.slice A1 T.length T.length) W at hcut
  generalize hW1 : w0.alloc (.cells ((H :: T).map Value.string).toArray 9) = w1 at *
  clear hba hrt hA hW1 HL0 HK0 HC
  go_wp2_with fail
  have hNU := config_Numbers A1 T.length T w1 (HRT.out _ HR1.out) (by omega) HTZ.out (HP.out.below HL1.out) (HE.out.below HL1.out)
  refine hNU.mono ?_
  rintro e w2 ⟨hcase, hB2⟩
  have HL2 := hid' (bel_then HL1.out hB2)
  have HK2 := hid' (HK1.out.below hB2)
  have HR2 := hid' (HR1.out.below hB2)
  have c0 : w2.cell? ⟨w.heap.size, 0, none⟩ = some (.int .i64 0) := by simpa using HK2.out.cell 0
  have c1 : w2.cell? ⟨w.heap.size, 1, none⟩ = some (.int .i64 0) := by simpa using HK2.out.cell 1
  have c2 : w2.cell? ⟨w.heap.size, 2, none⟩ = some (.int .i64 0) := by simpa using HK2.out.cell 2
  have c3 : w2.cell? ⟨w.heap.size, 3, none⟩ = some (.int .i64 0) := by simpa using HK2.out.cell 3
  have c4 : w2.cell? ⟨w.heap.size, 4, none⟩ = some (.int .i64 0) := by simpa using HK2.out.cell 4
  have f0 := HK2.out.frozen 0
  have f1 := HK2.out.frozen 1
  have f2 := HK2.out.frozen 2
  have f3 := HK2.out.frozen 3
  have f4 := HK2.out.frozen 4
  have hsh := HK2.out.shape
  obtain ⟨ad0, hA0, hH⟩ := HR2.out 0 _ rfl
  injection hA0 with hA0
  subst hA0
  change w2.cell? ⟨w0.heap.size, 0, none⟩ = some (.string H) at hH
  have hT0 : (0 : Int) < (T.length : Int) + 1 := by omega
  clear hB2 hNU hcut hw0 hTl HTZ HRT HR1 HL1 HK1 HP HE HR2
  rcases hcase with ⟨hk, v, rfl, hown⟩ | ⟨hk, rfl⟩
  · rw [hk, if_pos rfl] at hro
    rw [numsV_w] at hown
    obtain ⟨A, c, rfl, hc1, hc2, hrd⟩ := own_rd hown
    have hnl : ((T.map bL).map wV).length = T.length := by simp
    generalize (T.map bL).map wV = nums at *
    clear hk hown hc1 hc2
    by_cases hw1 : H = strOf wBounded
    · have hm1 : H.toList = [98, 111, 117, 110, 100, 101, 100] := by rw [hw1]; exact ByteArray.toList_eq _
      have hb : bL H = wBounded := by rw [hw1]; rfl
      rw [hb] at hro
      by_cases hl1 : T.length = 1
      · obtain ⟨a, rfl⟩ := len1 (hnl.trans hl1)
        have hro2 : o = some (0, a, 0, 0, 0) := by rw [hro]; rfl
        obtain ⟨ad, rfl, hcell⟩ := hrd 0 _ rfl
        change w2.cell? ad = some (.int .i64 a) at hcell
        have hl1i : ((T.length : Int) == 1) = true := by rw [hl1]; rfl
        have hl0 : (0 : Int) < (T.length : Int) := by omega
        subst hro2
        clear hro hw1 hb hrd
        go_wp2
        refine bodyPost_ret (v := .tuple #[rlRes (some (0, a, 0, 0, 0)), .bool true]) ?_ rfl ⟨rfl, ?_⟩
        · rw [results_cell_tmp rfl]; (try unfold rlRes rlVal); go_simp
        · repeat (first | exact HL2.out | exact bel_drew HL2.out | refine bel_set ?_ (by exact Nat.le_refl _) _ | refine bel_drew ?_)
      · have hl1i : ((T.length : Int) == 1) = false := by rw [beq_eq_false_iff_ne]; omega
        have hro2 : o = none := by rw [hro]; unfold ruleN; rw [if_neg (by rw [hnl]; exact fun h => hl1 h.2), if_neg (fun h => absurd h.1 (by decide)), if_neg (fun h => absurd h.1 (by decide))]
        subst hro2
        clear hro hw1 hb hrd
        go_wp2
        refine bodyPost_ret (v := .tuple #[rlRes none, .bool false]) ?_ rfl ⟨rfl, ?_⟩
        · rw [results_cell_tmp rfl]; (try unfold rlRes rlVal); go_simp
        · repeat (first | exact HL2.out | exact bel_drew HL2.out | refine bel_set ?_ (by exact Nat.le_refl _) _ | refine bel_drew ?_)
    · have hn1 : (H.toList == [98, 111, 117, 110, 100, 101, 100]) = false := by have h := strNe (b := strOf wBounded) hw1; rwa [show (strOf wBounded).toList = [98, 111, 117, 110, 100, 101, 100] from ByteArray.toList_eq _] at h
      have hb1 : bL H ≠ wBounded := fun h => hw1 (bL_inj (by rw [bL_str]; exact h))
      by_cases hw2 : H = strOf wMarked
      · have hm1 : H.toList = [109, 97, 114, 107, 101, 100] := by rw [hw2]; exact ByteArray.toList_eq _
        have hb : bL H = wMarked := by rw [hw2]; rfl
        rw [hb] at hro
        by_cases hl1 : T.length = 1
        · obtain ⟨a, rfl⟩ := len1 (hnl.trans hl1)
          have hro2 : o = some (1, 0, 0, 0, a) := by rw [hro]; rfl
          obtain ⟨ad, rfl, hcell⟩ := hrd 0 _ rfl
          change w2.cell? ad = some (.int .i64 a) at hcell
          have hl1i : ((T.length : Int) == 1) = true := by rw [hl1]; rfl
          have hl0 : (0 : Int) < (T.length : Int) := by omega
          subst hro2
          clear hro hw1 hw2 hb hb1 hrd
          go_wp2
          refine bodyPost_ret (v := .tuple #[rlRes (some (1, 0, 0, 0, a)), .bool true]) ?_ rfl ⟨rfl, ?_⟩
          · rw [results_cell_tmp rfl]; (try unfold rlRes rlVal); go_simp
          · repeat (first | exact HL2.out | exact bel_drew HL2.out | refine bel_set ?_ (by exact Nat.le_refl _) _ | refine bel_drew ?_)
        · have hl1i : ((T.length : Int) == 1) = false := by rw [beq_eq_false_iff_ne]; omega
          have hro2 : o = none := by rw [hro]; unfold ruleN; rw [if_neg (fun h => absurd h.1 (by decide)), if_neg (by rw [hnl]; exact fun h => hl1 h.2), if_neg (fun h => absurd h.1 (by decide))]
          subst hro2
          clear hro hw1 hw2 hb hb1 hrd
          go_wp2
          refine bodyPost_ret (v := .tuple #[rlRes none, .bool false]) ?_ rfl ⟨rfl, ?_⟩
          · rw [results_cell_tmp rfl]; (try unfold rlRes rlVal); go_simp
          · repeat (first | exact HL2.out | exact bel_drew HL2.out | refine bel_set ?_ (by exact Nat.le_refl _) _ | refine bel_drew ?_)
      · have hn2 : (H.toList == [109, 97, 114, 107, 101, 100]) = false := by have h := strNe (b := strOf wMarked) hw2; rwa [show (strOf wMarked).toList = [109, 97, 114, 107, 101, 100] from ByteArray.toList_eq _] at h
        have hb2 : bL H ≠ wMarked := fun h => hw2 (bL_inj (by rw [bL_str]; exact h))
        by_cases hw3 : H = strOf wPercent
        · have hm1 : H.toList = [112, 101, 114, 99, 101, 110, 116] := by rw [hw3]; exact ByteArray.toList_eq _
          have hb : bL H = wPercent := by rw [hw3]; rfl
          rw [hb] at hro
          by_cases hl2 : T.length = 2
          · obtain ⟨a, b, rfl⟩ := len2 (hnl.trans hl2)
            have hro2 : o = some (2, 0, a, b, 0) := by rw [hro]; rfl
            obtain ⟨ad, rfl, hcell⟩ := hrd 0 _ rfl
            change w2.cell? ad = some (.int .i64 a) at hcell
            obtain ⟨ad', hA', hcell'⟩ := hrd 1 _ rfl
            injection hA' with hA'
            subst hA'
            change w2.cell? ⟨ad.block, ad.off + 1, none⟩ = some (.int .i64 b) at hcell'
            have hl1i : ((T.length : Int) == 2) = true := by rw [hl2]; rfl
            have hl0 : (0 : Int) < (T.length : Int) := by omega
            have hl1' : (1 : Int) < (T.length : Int) := by omega
            subst hro2
            clear hro hw1 hw2 hw3 hb hb1 hb2 hrd
            go_wp2
            go_region
            go_wp2
            refine bodyPost_ret (v := .tuple #[rlRes (some (2, 0, a, b, 0)), .bool true]) ?_ rfl ⟨rfl, ?_⟩
            · rw [results_cell_tmp rfl]; (try unfold rlRes rlVal); go_simp
            · repeat (first | exact HL2.out | exact bel_drew HL2.out | refine bel_set ?_ (by exact Nat.le_refl _) _ | refine bel_drew ?_)
          · have hl1i : ((T.length : Int) == 2) = false := by rw [beq_eq_false_iff_ne]; omega
            have hro2 : o = none := by rw [hro]; unfold ruleN; rw [if_neg (fun h => absurd h.1 (by decide)), if_neg (fun h => absurd h.1 (by decide)), if_neg (by rw [hnl]; exact fun h => hl2 h.2)]
            subst hro2
            clear hro hw1 hw2 hw3 hb hb1 hb2 hrd
            go_wp2
            refine bodyPost_ret (v := .tuple #[rlRes none, .bool false]) ?_ rfl ⟨rfl, ?_⟩
            · rw [results_cell_tmp rfl]; (try unfold rlRes rlVal); go_simp
            · repeat (first | exact HL2.out | exact bel_drew HL2.out | refine bel_set ?_ (by exact Nat.le_refl _) _ | refine bel_drew ?_)
        · have hn3 : (H.toList == [112, 101, 114, 99, 101, 110, 116]) = false := by have h := strNe (b := strOf wPercent) hw3; rwa [show (strOf wPercent).toList = [112, 101, 114, 99, 101, 110, 116] from ByteArray.toList_eq _] at h
          have hb3 : bL H ≠ wPercent := fun h => hw3 (bL_inj (by rw [bL_str]; exact h))
          have hro2 : o = none := by rw [hro]; unfold ruleN; rw [if_neg (fun h => hb1 h.1), if_neg (fun h => hb2 h.1), if_neg (fun h => hb3 h.1)]
          subst hro2
          clear hro hw1 hw2 hw3 hb1 hb2 hb3 hrd
          go_wp2
          refine bodyPost_ret (v := .tuple #[rlRes none, .bool false]) ?_ rfl ⟨rfl, ?_⟩
          · rw [results_cell_tmp rfl]; (try unfold rlRes rlVal); go_simp
          · repeat (first | exact HL2.out | exact bel_drew HL2.out | refine bel_set ?_ (by exact Nat.le_refl _) _ | refine bel_drew ?_)
  · rw [hk, if_neg (by decide)] at hro
    subst hro
    clear hk
    go_wp2
    refine bodyPost_ret (v := .tuple #[rlRes none, .bool false]) ?_ rfl ⟨rfl, ?_⟩
    · rw [results_cell_tmp rfl]; (try unfold rlRes rlVal); go_simp
    · repeat (first | exact HL2.out | exact bel_drew HL2.out | refine bel_set ?_ (by exact Nat.le_refl _) _ | refine bel_drew ?_)
end Go.Proofs.YtockkjhciojgbaaGreatDoor
/- ConfigE -/
/- Configurations in words, both ways (config.Print, tidewaiterref19.Print), and sameness (Same), walked. No condition but the tables and variables of Go's own library. -/
namespace Go.Proofs.YtockkjhciojgbaaGreatDoor
set_option maxRecDepth 100000
set_option linter.unusedSimpArgs false
open Go.RowKit
set_option linter.unusedVariables false
set_option linter.unusedSimpArgs false

def cfgL (l : List Rl) (t d : Int) : List UInt8 := lnL wSource [t, d] ++ l.flatMap rlL
theorem cfgL_snoc (l : List Rl) (r : Rl) (t d : Int) : cfgL (l ++ [r]) t d = cfgL l t d ++ rlL r := by unfold cfgL; simp
theorem rlL_len {r : Rl} (h : rlI r) : (rlL r).length ≤ 60 := by
  obtain ⟨k, b, p, n, s⟩ := r
  obtain ⟨hk, hb, hp, hn, hs⟩ := h
  simp only at hk hb hp hn hs
  have h1 := itoa_len hb
  have h2 := itoa_len hp
  have h3 := itoa_len hn
  have h4 := itoa_len hs
  unfold rlL ruleL
  simp only
  split
  · show (lnL wBounded [b]).length ≤ 60
    unfold lnL wordsL; simp; show 7 + _ ≤ 60; omega
  · split
    · unfold lnL wordsL; simp; show 6 + _ ≤ 60; omega
    · split
      · unfold lnL wordsL; simp; show 7 + _ ≤ 60; omega
      · simp
theorem cfgL_len {l : List Rl} {t d : Int} (h : ∀ r ∈ l, rlI r) (ht : I64 t) (hd : I64 d) : (cfgL l t d).length ≤ 60 + 60 * l.length := by
  have h1 := itoa_len ht
  have h2 := itoa_len hd
  unfold cfgL
  have h3 : (lnL wSource [t, d]).length ≤ 60 := by unfold lnL wordsL; simp; show 6 + _ ≤ 60; omega
  have h4 : (l.flatMap rlL).length ≤ 60 * l.length := by
    induction l with
    | nil => simp
    | cons r l ih =>
      have := rlL_len (h r (List.mem_cons_self ..))
      have := ih (fun x hx => h x (List.mem_cons_of_mem _ hx))
      simp only [List.flatMap_cons, List.length_append, List.length_cons]; omega
  rw [List.length_append]; omega
theorem cfgL_take {l : List Rl} {k : Nat} {r : Rl} (h : l[k]? = some r) (t d : Int) : cfgL (l.take (k + 1)) t d = cfgL (l.take k) t d ++ rlL r := by
  rw [List.take_add_one, h]; exact cfgL_snoc _ r t d
set_option maxHeartbeats 8000000 in
theorem ref19_Print (A : Option Addr) (cp : Nat) (l : List Rl) (t d : Int) (w : World) (hr : RdS w A 5 fRl l) (hl : l.length ≤ 1000) (hI : ∀ r ∈ l, rlI r) (ht : I64 t) (hd : I64 d) :
    Calls Tryz.prog 36 #[.agg #[.slice A l.length cp, .int .i64 t, .int .i64 d]] w fun e w' => e = .returned (.string (strOf (cfgL l t d))) ∧ Below w.heap.size w w' := by
  have HK := hid' (Blk.new_ w 27 #[.slice A l.length cp, .int .i64 t, .int .i64 d])
  have HL0 := hid' (bel_alloc (bel_refl w) (.cells #[.slice A l.length cp, .int .i64 t, .int .i64 d] 27))
  have HR := hid' hr
  have HI := hid' hI
  have HZ := hid' (fun k => cfgL_len (l := l.take k) (fun r hr => hI r (List.mem_of_mem_take hr)) ht hd)
  have HN := hid' (fun W => numQ t W ht)
  have HM := hid' (fun W => numQ d W hd)
  have hz := numT_size ht
  have hz2 := numT_size hd
  have h1 : ¬ 9223372036854775807 < 7 + (numT t).size := by omega
  have h2 : ¬ 9223372036854775807 < 7 + (numT t).size + 1 := by omega
  have h3 : ¬ 9223372036854775807 < 7 + (numT t).size + 1 + (numT d).size := by omega
  have h4 : ¬ 9223372036854775807 < 7 + (numT t).size + 1 + (numT d).size + 1 := by omega
  have hfirst : (⟨#[115, 111, 117, 114, 99, 101, 32]⟩ : ByteArray) ++ numT t ++ ⟨#[32]⟩ ++ numT d ++ ⟨#[10]⟩ = strOf (cfgL (l.take 0) t d) := by
    rw [List.take_zero]
    unfold cfgL
    rw [List.flatMap_nil, List.append_nil]
    exact two_line wSource t d
  have HF := hid' hfirst
  clear hr hI hfirst ht hd
  generalize numT t = y at *
  generalize numT d = z at *
  go_enter Tryz.func36, Tryz.ntmps36
  go_wp2
  generalize hw0 : w.alloc (.cells #[.slice A l.length cp, .int .i64 t, .int .i64 d] 27) = w0 at *
  have c1 : w0.cell? ⟨w.heap.size, 1, none⟩ = some (.int .i64 t) := by simpa using HK.out.cell 1
  have c2 : w0.cell? ⟨w.heap.size, 2, none⟩ = some (.int .i64 d) := by simpa using HK.out.cell 2
  have q1 := cell_regrown c1
  have q2 := cell_regrown c2
  refine wp_region_quiet_below (by kernel_rfl) (by kernel_rfl) ?_
  repeat (quiet_step (first | with_reducible exact HN.out _ _ _ | with_reducible exact HM.out _ _ _))
  refine wpQuiet_nil ?_
  intro _ hw'
  obtain ⟨⟨dq, osq⟩, hw''⟩ := hw'
  subst hw''
  have hBq := below_regrown w0 dq osq
  generalize Go.Sort.grow (redrawn w0 dq) osq = wq at *
  have HKq := hid' (HK.out.below hBq)
  have HLq := hid' (bel_then HL0.out hBq)
  clear c1 c2 q1 q2 hBq hw0
  go_wp2
  go_loopw [3, 4] (fun v3 v4 wr => ∃ k : Nat, k ≤ l.length ∧ v4 = .int .i64 k ∧ v3 = .string (strOf (cfgL (l.take k) t d)) ∧ Blk wr w.heap.size 27 #[.slice A l.length cp, .int .i64 t, .int .i64 d] ∧ Below w.heap.size w wr) (fun _ v4 _ => l.length - (intOf v4).toNat)
  case atStart => exact ⟨0, Nat.zero_le _, rfl, by rw [← HF.out] <;> rfl, HKq.out, HLq.out⟩
  case round =>
    obtain ⟨k, hk, rfl, rfl, hB, hL⟩ := hrel
    have HL := hid' hL
    have HKK := hid' hB
    have e0 : wr.cell? ⟨w.heap.size, 0, none⟩ = some (.slice A l.length cp) := by simpa using hB.cell 0
    have hlen := HZ.out k
    rw [List.length_take] at hlen
    obtain ⟨p, hp⟩ : ∃ p, p = strOf (cfgL (l.take k) t d) := ⟨_, rfl⟩
    have hps : p.size ≤ 70000 := by
      rw [hp]
      show (cfgL (l.take k) t d).length ≤ _
      omega
    rw [← hp]
    have HPP := hid' hp
    by_cases hlt : k < l.length
    · have hlti : (k : Int) < (l.length : Int) := by omega
      obtain ⟨ad, a, b, q, n, s, rfl, hx, c0, c1, c2, c3, c4⟩ := (HR.out.below hL).at5 hlt
      have hri := HI.out _ (List.mem_of_getElem? hx)
      have HC := hid' (fun W => ref19_Rule a b q n s W hri)
      have hrl := rlL_len hri
      have hnext : p ++ strOf (ruleL a b q n s) = strOf (cfgL (l.take (k + 1)) t d) := by
        rw [hp, cfgL_take hx, strN_app]; rfl
      have HNX := hid' hnext
      have hsz : p.size + (strOf (ruleL a b q n s)).size ≤ 9223372036854775807 := by
        show p.size + (ruleL a b q n s).length ≤ _
        have : (ruleL a b q n s).length ≤ 60 := hrl
        omega
      unfold ruleV at HC
      clear hx hB hL hp hnext hri hrl
      generalize strOf (ruleL a b q n s) = x at *
      go_wp2_with fail
      refine (HC.out _).mono ?_
      rintro e' w2 ⟨rfl, hB2⟩
      go_wp2
      go_roundw
      case rel => exact ⟨k + 1, by omega, by go_num, by rw [← HNX.out] <;> rfl, HKK.out.below hB2, bel_then HL.out hB2⟩
      case measure => (simp only [intOf]; omega)
    · obtain rfl : k = l.length := by omega
      rw [List.take_length] at HPP
      clear hL hB hp
      go_wp2
      go_ret
      exact ⟨by rw [HPP.out] <;> rfl, HL.out⟩
end Go.Proofs.YtockkjhciojgbaaGreatDoor
/- ConfigF -/
/- Configurations in words (config.Print), walked. No condition but the tables of Go's own library. -/
namespace Go.Proofs.YtockkjhciojgbaaGreatDoor
set_option maxRecDepth 100000
set_option linter.unusedSimpArgs false
open Go.RowKit
set_option linter.unusedVariables false
set_option linter.unusedSimpArgs false

set_option maxHeartbeats 8000000 in
theorem config_Print (A : Option Addr) (cp : Nat) (l : List Rl) (t d : Int) (w : World) (hr : RdS w A 5 fRl l) (hl : l.length ≤ 1000) (hI : ∀ r ∈ l, rlI r) (ht : I64 t) (hd : I64 d) (hP : PowT w) :
    Calls Tryz.prog 31 #[.agg #[.slice A l.length cp, .int .i64 t, .int .i64 d]] w fun e w' => e = .returned (.string (strOf (cfgL l t d))) ∧ Below w.heap.size w w' := by
  have HK := hid' (Blk.new_ w 27 #[.slice A l.length cp, .int .i64 t, .int .i64 d])
  have HL0 := hid' (bel_alloc (bel_refl w) (.cells #[.slice A l.length cp, .int .i64 t, .int .i64 d] 27))
  have HR := hid' hr
  have HI := hid' hI
  have HP := hid' hP
  have HZ := hid' (fun k => cfgL_len (l := l.take k) (fun r hr => hI r (List.mem_of_mem_take hr)) ht hd)
  have HTD := hid' (And.intro ht hd)
  clear hr hI hP ht hd
  go_enter Tryz.func31, Tryz.ntmps31
  go_wp2_with fail
  have hs0 : (w.alloc (.cells #[.slice A l.length cp, .int .i64 t, .int .i64 d] 27)).heap.size = w.heap.size + 1 := by simp
  generalize hw0 : w.alloc (.cells #[.slice A l.length cp, .int .i64 t, .int .i64 d] 27) = w0 at *
  have HS0 := hid' hs0
  have HU0 := hid' (USt.new_ w0)
  have hlt0 : w.heap.size < w0.heap.size := HK.out.lt
  have hne0 : w.heap.size ≠ w0.heap.size := by omega
  clear hs0
  have hb1 := bel_alloc (bel_refl w0) (.cells #[.pointer none, .slice none 0 0] 64)
  have HK1 := hid' (HK.out.below hb1)
  have HL1 := hid' (bel_then HL0.out hb1)
  have hs1 : (w0.alloc (.cells #[.pointer none, .slice none 0 0] 64)).heap.size = w.heap.size + 1 + 1 := by rw [← hw0]; simp
  generalize hw1 : w0.alloc (.cells #[.pointer none, .slice none 0 0] 64) = w1 at *
  have c1 : w1.cell? ⟨w.heap.size, 1, none⟩ = some (.int .i64 t) := by simpa using HK1.out.cell 1
  have c2 : w1.cell? ⟨w.heap.size, 2, none⟩ = some (.int .i64 d) := by simpa using HK1.out.cell 2
  have hba := bel_alloc (bel_refl w1) (.cells #[.int .i64 t, .int .i64 d] 3)
  have HX := hid' (config_line ⟨#[115, 111, 117, 114, 99, 101]⟩ (some ⟨w1.heap.size, 0, none⟩) 2 [t, d] _ ((Blk.new_ w1 3 #[.int .i64 t, .int .i64 d]).rd rfl) (by intro x hx; simp at hx; rcases hx with rfl | rfl; exact HTD.out.1; exact HTD.out.2) (by simp) (by decide) (HP.out.below (bel_then HL1.out hba)))
  rw [show bL ⟨#[115, 111, 117, 114, 99, 101]⟩ = wSource from rfl, hs1] at HX
  have HUa := hid' (HU0.out.below hba)
  have hfst : cfgL (l.take 0) t d = lnL wSource [t, d] := by rw [List.take_zero]; unfold cfgL; simp
  have HF := hid' hfst
  clear hb1 hba hw1 hfst HU0 hs1
  go_wp2_with fail
  refine HX.out.mono ?_
  rintro e w2 ⟨rfl, hB2⟩
  have HU2 := hid' (HUa.out.below hB2)
  have hz0 := HZ.out 0
  rw [HF.out] at hz0
  have hz1 : (lnL wSource [t, d]).length ≤ 60 := by simpa using hz0
  have HW := hid' (USt.str HU2.out (strOf (lnL wSource [t, d])) (by show 0 + (lnL wSource [t, d]).length ≤ _; omega))
  rw [List.nil_append, bL_str, HS0.out] at HW
  clear hB2 hz0 hz1
  generalize hsL : lnL wSource [t, d] = sL at *
  go_wp2_with fail
  refine HW.out.mono ?_
  rintro e w3 ⟨⟨r3, rfl⟩, hU3⟩
  have c0 : w3.cell? ⟨w.heap.size, 0, none⟩ = some (.slice A l.length cp) := by simpa using (HK.out.below hU3.2).cell 0
  have HU3 := hid' (show USt w0 w3 (cfgL (l.take 0) t d) by rw [HF.out]; exact hU3)
  clear hU3 c1 c2 hsL
  go_wp2
  go_loopw [5, 16] (fun v5 v16 wr => ∃ k : Nat, k ≤ l.length ∧ v16 = .int .i64 k ∧ USt w0 wr (cfgL (l.take k) t d)) (fun _ v16 _ => l.length - (intOf v16).toNat)
  case atStart => exact ⟨0, Nat.zero_le _, rfl, HU3.out⟩
  case round =>
    obtain ⟨k, hk, rfl, hU⟩ := hrel
    have HU := hid' hU
    have hlen := HZ.out k
    rw [List.length_take] at hlen
    by_cases hlt : k < l.length
    · have hlti : (k : Int) < (l.length : Int) := by omega
      have hLr := bel_then HL0.out hU.2
      obtain ⟨ad, a, b, q, n, s, rfl, hx, c0, c1, c2, c3, c4⟩ := (HR.out.below hLr).at5 hlt
      have hri := HI.out _ (List.mem_of_getElem? hx)
      have hba := bel_alloc (bel_refl wr) (.cells #[.int .i64 a, .int .i64 b, .int .i64 q, .int .i64 n, .int .i64 s] 24)
      have HC := hid' (config_Rule a b q n s _ hri (HP.out.below (bel_then hLr hba)))
      have HUa := hid' (hU.below hba)
      have hrl : (ruleL a b q n s).length ≤ 60 := rlL_len hri
      have HNX := hid' (cfgL_take hx t d)
      unfold ruleV at HC
      clear hx hU hba hri hLr
      go_wp2_with fail
      refine HC.out.mono ?_
      rintro e' w4 ⟨rfl, hB4⟩
      have HU4 := hid' (HUa.out.below hB4)
      have HW4 := hid' (USt.str HU4.out (strOf (ruleL a b q n s)) (by show _ + (ruleL a b q n s).length ≤ _; omega))
      rw [bL_str, HS0.out] at HW4
      clear hB4
      go_wp2_with fail
      refine HW4.out.mono ?_
      rintro e' w5 ⟨⟨r5, rfl⟩, hU5⟩
      go_wp2
      go_roundw
      case rel => exact ⟨k + 1, by omega, by go_num, by rw [HNX.out]; exact hU5⟩
      case measure => (simp only [intOf]; omega)
    · obtain rfl : k = l.length := by omega
      rw [List.take_length] at HU
      clear hU
      go_wp2_with fail
      have HSG := USt.string HU.out
      rw [HS0.out] at HSG
      refine HSG.mono ?_
      rintro e' w4 ⟨rfl, hU4⟩
      go_wp2
      go_ret
      exact ⟨rfl, bel_then HL0.out hU4.2⟩
end Go.Proofs.YtockkjhciojgbaaGreatDoor
/- ConfigG -/
/- Sameness of configurations (tidewaiterref19.Same), walked. No condition. -/
namespace Go.Proofs.YtockkjhciojgbaaGreatDoor
set_option maxRecDepth 100000
set_option linter.unusedSimpArgs false
open Go.RowKit
set_option linter.unusedVariables false
set_option linter.unusedSimpArgs false

set_option maxHeartbeats 8000000 in
theorem ref19_Same (A B : Option Addr) (cp cq : Nat) (l : List Rl) (t d : Int) (w : World) (hr : RdS w A 5 fRl l) (hr2 : RdS w B 5 fRl l) (hl : l.length ≤ 1000000) :
    Calls Tryz.prog 38 #[.agg #[.slice A l.length cp, .int .i64 t, .int .i64 d], .agg #[.slice B l.length cq, .int .i64 t, .int .i64 d]] w fun e w' => e = .returned (.bool true) ∧ Below w.heap.size w w' := by
  have HR := hid' hr
  have HR2 := hid' hr2
  have hba := bel_alloc (bel_refl w) (.cells #[.slice A l.length cp, .int .i64 t, .int .i64 d] 27)
  have HKa := hid' (Blk.new_ w 27 #[.slice A l.length cp, .int .i64 t, .int .i64 d])
  have hbb := bel_alloc (bel_refl (w.alloc (.cells #[.slice A l.length cp, .int .i64 t, .int .i64 d] 27))) (.cells #[.slice B l.length cq, .int .i64 t, .int .i64 d] 27)
  have HKb := hid' (Blk.new_ (w.alloc (.cells #[.slice A l.length cp, .int .i64 t, .int .i64 d] 27)) 27 #[.slice B l.length cq, .int .i64 t, .int .i64 d])
  have HKc := hid' (HKa.out.below hbb)
  have HL0 := hid' (bel_then hba hbb)
  have hs1 : (w.alloc (.cells #[.slice A l.length cp, .int .i64 t, .int .i64 d] 27)).heap.size = w.heap.size + 1 := by simp
  rw [hs1] at HKb
  clear hba hbb hr hr2 HKa
  have d0 : (t == t) = true := by simp
  have d1 : (d == d) = true := by simp
  go_enter Tryz.func38, Tryz.ntmps38
  go_wp2
  generalize hw0 : (w.alloc (.cells #[.slice A l.length cp, .int .i64 t, .int .i64 d] 27)).alloc (.cells #[.slice B l.length cq, .int .i64 t, .int .i64 d] 27) = w0 at *
  go_loopw [5] (fun v5 wr => ∃ k : Nat, k ≤ l.length ∧ v5 = .int .i64 k ∧ Blk wr w.heap.size 27 #[.slice A l.length cp, .int .i64 t, .int .i64 d] ∧ Blk wr (w.heap.size + 1) 27 #[.slice B l.length cq, .int .i64 t, .int .i64 d] ∧ Below w.heap.size w wr) (fun v5 _ => l.length - (intOf v5).toNat)
  case atStart => exact ⟨0, Nat.zero_le _, rfl, HKc.out, HKb.out, HL0.out⟩
  case round =>
    obtain ⟨k, hk, rfl, hKa, hKb, hL⟩ := hrel
    have HA := hid' hKa
    have HB := hid' hKb
    have HL := hid' hL
    have e0 : wr.cell? ⟨w.heap.size, 0, none⟩ = some (.slice A l.length cp) := by simpa using hKa.cell 0
    have e1 : wr.cell? ⟨w.heap.size + 1, 0, none⟩ = some (.slice B l.length cq) := by simpa using hKb.cell 0
    by_cases hlt : k < l.length
    · have hlti : (k : Int) < (l.length : Int) := by omega
      obtain ⟨ad, a, b, q, n, s, rfl, hx, c0, c1, c2, c3, c4⟩ := (HR.out.below hL).at5 hlt
      obtain ⟨ad2, a', b', q', n', s', rfl, hx', k0, k1, k2, k3, k4⟩ := (HR2.out.below hL).at5 hlt
      rw [hx] at hx'
      simp only [Option.some.injEq, Prod.mk.injEq] at hx'
      obtain ⟨rfl, rfl, rfl, rfl, rfl⟩ := hx'
      clear hL hKa hKb hx
      go_wp2
      go_quiet (fail)
      go_wp2
      go_roundw
      case rel => exact ⟨k + 1, by omega, by go_num, by first | exact HA.out.drewN _ | exact HA.out.drew, by first | exact HB.out.drewN _ | exact HB.out.drew, by first | exact bel_drewN HL.out _ | exact bel_drew HL.out⟩
      case measure => (simp only [intOf]; omega)
    · obtain rfl : k = l.length := by omega
      clear hL hKa hKb
      go_wp2
      go_ret
      exact ⟨rfl, HL.out⟩
end Go.Proofs.YtockkjhciojgbaaGreatDoor
/- ConfigH -/
/- Configurations read from lines (config.Parse), walked. No condition but the tables and variables of Go's own library. -/
namespace Go.Proofs.YtockkjhciojgbaaGreatDoor
set_option maxRecDepth 100000
set_option linter.unusedSimpArgs false
open Go.RowKit
set_option linter.unusedVariables false
set_option linter.unusedSimpArgs false

def rvP (x : ByteArray) : Rl := (ruleP (bL x)).getD (0, 0, 0, 0, 0)
def rokP (x : ByteArray) : Bool := (ruleP (bL x)).isSome
def rlRows (l : List ByteArray) : List Value := l.flatMap fun x => fRl (rvP x)
theorem rlRows_take {l : List ByteArray} {k : Nat} {x : ByteArray} (h : l[k]? = some x) : rlRows (l.take (k + 1)) = rlRows (l.take k) ++ fRl (rvP x) := by
  unfold rlRows; rw [List.take_add_one, h]; simp
theorem fRl_one (r : Rl) : ∀ u ∈ fRl r, u.oneCell' = true := by
  intro u hu
  unfold fRl at hu
  simp at hu
  rcases hu with h | h | h | h | h <;> rw [h] <;> rfl
def badIdx : List ByteArray → Option Nat
  | [] => none
  | x :: l => if rokP x = true then (badIdx l).map (· + 1) else some 0
theorem badIdx_at : ∀ {l : List ByteArray} {k : Nat} {x : ByteArray}, (∀ j y, j < k → l[j]? = some y → rokP y = true) → l[k]? = some x → rokP x = false → badIdx l = some k
  | [], k, x, _, h, _ => by simp at h
  | y :: l, 0, x, _, h, hx => by
    simp at h; subst h
    unfold badIdx; rw [if_neg (by rw [hx]; decide)]
  | y :: l, k + 1, x, h0, h, hx => by
    unfold badIdx
    rw [if_pos (h0 0 y (by omega) rfl), badIdx_at (l := l) (k := k) (fun j z hj hz => h0 (j + 1) z (by omega) (by simpa using hz)) (by simpa using h) hx]
    rfl
theorem badIdx_none : ∀ {l : List ByteArray}, (∀ j y, j < l.length → l[j]? = some y → rokP y = true) → badIdx l = none
  | [], _ => rfl
  | y :: l, h => by
    unfold badIdx
    rw [if_pos (h 0 y (by simp) rfl), badIdx_none (l := l) (fun j z hj hz => h (j + 1) z (by simp; omega) (by simpa using hz))]
    rfl
/-- which line is none; 0: all are -/
def parseBad : List ByteArray → Nat
  | [] => 1
  | x :: l => match headP (bL x) with | none => 1 | some _ => match badIdx l with | some k => k + 2 | none => 0
def PPost (w : World) (xs : List ByteArray) (e : Ending) (w' : World) : Prop :=
  ((parseBad xs ≠ 0 ∧ e = .returned (.tuple #[.agg #[.slice none 0 0, .int .i64 0, .int .i64 0], .int .i64 (parseBad xs : Int)])) ∨
   (parseBad xs = 0 ∧ ∃ x l a b v, xs = x :: l ∧ headP (bL x) = some (a, b) ∧ e = .returned (.tuple #[.agg #[v, .int .i64 a, .int .i64 b], .int .i64 0]) ∧ w'.ownsRow w.heap.size 24 5 v l.length (rlRows l) ∧ ∀ y ∈ l, rokP y = true)) ∧ Below w.heap.size w w'
set_option maxHeartbeats 16000000 in
theorem config_Parse (A : Option Addr) (c : Nat) (xs : List ByteArray) (w : World) (hr : Rd w A (xs.map .string)) (hl : xs.length ≤ 100000) (hlc : xs.length ≤ c) (hz : ∀ x ∈ xs, x.size ≤ 10000) (hP : PowT w) (hE : ErV w) (hM : MaxT w) :
    Calls Tryz.prog 71 #[.slice A xs.length c] w (PPost w xs) := by
  have HP := hid' hP
  have HE := hid' hE
  have HM := hid' hM
  have HL0 := hid' (bel_alloc (bel_refl w) (.cells #[.slice none 0 0, .int .i64 0, .int .i64 0] 27))
  have HK0 := hid' (Blk.new_ w 27 #[.slice none 0 0, .int .i64 0, .int .i64 0])
  cases xs with
  | nil =>
    go_enter Tryz.func71, Tryz.ntmps71
    have f0 := HK0.out.frozen 0
    have f1 := HK0.out.frozen 1
    have f2 := HK0.out.frozen 2
    go_wp2
    refine bodyPost_ret (v := .tuple #[.agg #[.slice none 0 0, .int .i64 0, .int .i64 0], .int .i64 1]) ?_ rfl ?_
    · rw [results_cell_tmp rfl]; first | done | go_simp
    · exact ⟨.inl ⟨by decide, rfl⟩, HL0.out⟩
  | cons x l =>
    have hxz := hz x (List.mem_cons_self ..)
    have hlz : ∀ y ∈ l, y.size ≤ 10000 := fun y hy => hz y (List.mem_cons_of_mem _ hy)
    have hll : l.length ≤ 100000 := by simp at hl; omega
    have hl0 : (0 : Int) < ((x :: l).length : Int) := by rw [List.length_cons]; omega
    have hlne : (((x :: l).length : Int) == 0) = false := by rw [beq_eq_false_iff_ne, List.length_cons]; omega
    obtain ⟨ad, hA, hx0⟩ := hr 0 (.string x) rfl
    subst hA
    obtain ⟨H, T, hsp, hcall⟩ := splitW 32 x ⟨#[32]⟩ (w.alloc (.cells #[.slice none 0 0, .int .i64 0, .int .i64 0] 27)) rfl (by omega) (hM.below (bel_alloc (bel_refl w) _))
    have HC := hid' hcall
    have hTl : T.length ≤ 10000 := by
      have h1 := spl_len 32 (bL x)
      rw [← hsp, bL_len] at h1
      simp at h1; omega
    have hTz : ∀ y ∈ T, y.size ≤ 200000 := by
      intro y hy
      have := spl_mem_len (c := 32) (l := bL x) (bL y) (by rw [← hsp]; exact List.mem_cons_of_mem _ (List.mem_map_of_mem hy))
      rw [bL_len, bL_len] at this
      omega
    have hro : headP (bL x) = if numsOk T = true then (if bL H = wSource ∧ T.length = 2 then some (((T.map bL).map wV).getD 0 0, ((T.map bL).map wV).getD 1 0) else none) else none := by
      unfold headP
      rw [← hsp, numsOk_w]
      simp only [List.length_map]
    have HTZ := hid' hTz
    have HLZ := hid' hlz
    have HR := hid' hr
    have hc0 : (w.alloc (.cells #[.slice none 0 0, .int .i64 0, .int .i64 0] 27)).cell? ad = some (.string x) := by
      obtain ⟨ad', hA', h'⟩ := (hr.below (bel_alloc (bel_refl w) (.cells #[.slice none 0 0, .int .i64 0, .int .i64 0] 27))) 0 (.string x) rfl
      injection hA' with hA'
      subst hA'
      exact h'
    have hcutl := cut_l (P := Tryz.prog) 29 9 1 Tryz.underlying29 (by kernel_rfl) (some ad) (x :: l).length c 1 (by simp)
    change ∀ W : World, (Instr.slice 29 (.slice (some ad) (x :: l).length c) (some (.int .i64 1)) none none).run Tryz.prog W = .ok (.slice (cutA (some ad) 1 1 c) l.length (c - 1)) W at hcutl
    have hrl : Rd w (cutA (some ad) 1 1 c) (l.map .string) := by
      have h2 := hr.cut 1 1 c l.length (by simp at hlc; omega)
      have h3 : (((x :: l).map Value.string).drop (1 * 1)).take l.length = l.map Value.string := by
        show (l.map Value.string).take l.length = _
        exact List.take_of_length_le (by simp)
      rwa [h3] at h2
    have HRL := hid' hrl
    have HCL := hid' hcutl
    generalize hN : (x :: l).length = N at *
    clear hr hcall hsp hTz hlz hx0 hcutl hrl hP hE hM hN hl hlc hz
    go_enter Tryz.func71, Tryz.ntmps71
    go_wp2_with fail
    generalize hw0 : w.alloc (.cells #[.slice none 0 0, .int .i64 0, .int .i64 0] 27) = w0 at *
    refine HC.out.mono ?_
    rintro e w1 ⟨rfl, rfl⟩
    have HR1 := hid' ((Blk.new_ w0 9 ((H :: T).map Value.string).toArray).rd rfl)
    have hba := bel_alloc (bel_refl w0) (.cells ((H :: T).map Value.string).toArray 9)
    have HL1 := hid' (bel_then HL0.out hba)
    have HK1 := hid' (HK0.out.below hba)
    have hcut := cut_l (P := Tryz.prog) 29 9 1 Tryz.underlying29 (by kernel_rfl) (some ⟨w0.heap.size, 0, none⟩) (T.length + 1) (T.length + 1) 1 (by omega)
    have HRT := hid' (show ∀ W, Rd W (some ⟨w0.heap.size, 0, none⟩) ((H :: T).map Value.string) → Rd W (cutA (some ⟨w0.heap.size, 0, none⟩) 1 1 (T.length + 1)) (T.map Value.string) from by
      intro W h
      have h2 := h.cut 1 1 (T.length + 1) T.length (by omega)
      have h3 : (((H :: T).map Value.string).drop (1 * 1)).take T.length = T.map Value.string := by
        show (T.map Value.string).take T.length = _
        exact List.take_of_length_le (by simp)
      rwa [h3] at h2)
    generalize hA : cutA (some ⟨w0.heap.size, 0, none⟩) 1 1 (T.length + 1) = A1 at *
    rw [Nat.add_sub_cancel] at hcut
    change ∀ W : World, (Instr.slice 29 (.slice (some ⟨w0.heap.size, 0, none⟩) (T.length + 1) (T.length + 1)) (some (.int .i64 1)) none none).run Tryz.prog W = .ok (.slice A1 T.length T.length) W at hcut
    generalize hW1 : w0.alloc (.cells ((H :: T).map Value.string).toArray 9) = w1 at *
    clear hba hA hW1 HL0 HK0 HC hc0
    go_wp2_with fail
    have hNU := config_Numbers A1 T.length T w1 (HRT.out _ HR1.out) (by omega) HTZ.out (HP.out.below HL1.out) (HE.out.below HL1.out)
    refine hNU.mono ?_
    rintro e w2 ⟨hcase, hB2⟩
    have HL2 := hid' (bel_then HL1.out hB2)
    have HK2 := hid' (HK1.out.below hB2)
    have HR2 := hid' (HR1.out.below hB2)
    have c0 : w2.cell? ⟨w.heap.size, 0, none⟩ = some (.slice none 0 0) := by simpa using HK2.out.cell 0
    have c1 : w2.cell? ⟨w.heap.size, 1, none⟩ = some (.int .i64 0) := by simpa using HK2.out.cell 1
    have c2 : w2.cell? ⟨w.heap.size, 2, none⟩ = some (.int .i64 0) := by simpa using HK2.out.cell 2
    have f0 := HK2.out.frozen 0
    have f1 := HK2.out.frozen 1
    have f2 := HK2.out.frozen 2
    have hsh := HK2.out.shape
    obtain ⟨ad0, hA0, hH⟩ := HR2.out 0 _ rfl
    injection hA0 with hA0
    subst hA0
    change w2.cell? ⟨w0.heap.size, 0, none⟩ = some (.string H) at hH
    have hT0 : (0 : Int) < (T.length : Int) + 1 := by omega
    clear hB2 hNU hcut hw0 hTl HTZ HRT HR1 HL1 HK1 HR2
    have HPB := hid' (show headP (bL x) = none → parseBad (x :: l) = 1 from fun h => by show (match headP (bL x) with | none => 1 | some _ => match badIdx l with | some k => k + 2 | none => 0) = 1; rw [h])
    rcases hcase with ⟨hk, v, rfl, hown⟩ | ⟨hk, rfl⟩
    · rw [hk, if_pos rfl] at hro
      rw [numsV_w] at hown
      obtain ⟨A, c5, rfl, hc1, hc2, hrd⟩ := own_rd hown
      have hnl : ((T.map bL).map wV).length = T.length := by simp
      generalize (T.map bL).map wV = nums at *
      clear hk hown hc1 hc2
      by_cases hw1 : H = strOf wSource
      · have hm1 : H.toList = [115, 111, 117, 114, 99, 101] := by rw [hw1]; exact ByteArray.toList_eq _
        have hb : bL H = wSource := by rw [hw1]; rfl
        rw [hb] at hro
        by_cases hl2 : T.length = 2
        · obtain ⟨a, b, rfl⟩ := len2 (hnl.trans hl2)
          have hro2 : headP (bL x) = some (a, b) := by rw [hro, if_pos ⟨rfl, hl2⟩]; rfl
          have HHP := hid' hro2
          obtain ⟨ad5, rfl, hcell⟩ := hrd 0 _ rfl
          change w2.cell? ad5 = some (.int .i64 a) at hcell
          obtain ⟨ad', hA', hcell'⟩ := hrd 1 _ rfl
          injection hA' with hA'
          subst hA'
          change w2.cell? ⟨ad5.block, ad5.off + 1, none⟩ = some (.int .i64 b) at hcell'
          have hl1i : ((T.length : Int) != 2) = false := by rw [hl2]; rfl
          have hl0' : (0 : Int) < (T.length : Int) := by omega
          have hl1' : (1 : Int) < (T.length : Int) := by omega
          clear hro hro2 hw1 hb hrd
          have hcutl := HCL.out
          have hbz := bel_alloc (bel_refl w2) (.cells #[.slice none 0 0, .int .i64 0, .int .i64 0] 27)
          have g0 : (w2.alloc (.cells #[.slice none 0 0, .int .i64 0, .int .i64 0] 27)).cell? ad5 = some (.int .i64 a) := (hbz.cell (World.block_lt_of_cell? w2 _ hcell)).trans hcell
          have g1 : (w2.alloc (.cells #[.slice none 0 0, .int .i64 0, .int .i64 0] 27)).cell? ⟨ad5.block, ad5.off + 1, none⟩ = some (.int .i64 b) := (hbz.cell (World.block_lt_of_cell? w2 _ hcell')).trans hcell'
          clear hbz
          go_wp2
          go_region
          clear hcell hcell' c0 c1 c2 f0 f1 f2 hsh hH hm1 hnl hl1i hl0' hl1' hT0 g0 g1
          go_wp2
          have hb2lt : w.heap.size < w2.heap.size := HK2.out.lt
          generalize hb7 : w2.heap.size = b7 at *
          go_loopw [8, 9, 10, 11, 50] (fun v8 v9 v10 v11 v50 wr => ∃ (k : Nat) (v : Value), k ≤ l.length ∧ v50 = .int .i64 k ∧ (∀ j y, j < k → l[j]? = some y → rokP y = true) ∧ Blk wr b7 27 #[v, .int .i64 a, .int .i64 b] ∧ wr.ownsRow (b7 + 1) 24 5 v k (rlRows (l.take k)) ∧ Blk wr w.heap.size 27 #[.slice none 0 0, .int .i64 0, .int .i64 0] ∧ Below w.heap.size w wr) (fun _ _ _ _ v50 _ => l.length - (intOf v50).toNat)
          case atStart =>
            refine ⟨0, .slice none 0 0, Nat.zero_le _, rfl, fun j y hj => by omega, ?_, World.ownsRow_nil _ _ _ _, ?_, ?_⟩
            · rw [← hb7]; exact (Blk.new_ w2 _ _).drew
            · exact (HK2.out.below (bel_alloc (bel_refl w2) _)).drew
            · exact bel_drew (bel_alloc HL2.out _)
          case round =>
            obtain ⟨k, v, hk, rfl, hok, hJ, hown, hKB, hL⟩ := hrel
            have HOK := hid' hok
            have HJ := hid' hJ
            have HOWN := hid' hown
            have HKB := hid' hKB
            have HL := hid' hL
            have hbr : b7 < wr.heap.size := hJ.lt
            by_cases hlt : k < l.length
            · have hlti : (k : Int) < (l.length : Int) := by omega
              obtain ⟨adr, y, hAr, hy, hcy⟩ := (HRL.out.below hL).at_ hlt
              rw [hAr]
              change wr.cell? (adr.add k) = some (.string y) at hcy
              have hyz := HLZ.out y (List.mem_of_getElem? hy)
              have HRU := hid' (config_rule y wr hyz (HP.out.below hL) (HE.out.below hL) (HM.out.below hL))
              have HY := hid' hy
              clear hok hJ hown hKB hL hy hcutl
              cases hoy : ruleP (bL y) with
              | none =>
                have hrk : rokP y = false := by unfold rokP; rw [hoy]; rfl
                have hbi := badIdx_at HOK.out HY.out hrk
                have HPB2 := hid' (show parseBad (x :: l) = k + 2 by
                  show (match headP (bL x) with | none => 1 | some _ => match badIdx l with | some k => k + 2 | none => 0) = k + 2
                  rw [HHP.out, hbi])
                rw [hoy, show rlRes none = .agg #[.int .i64 0, .int .i64 0, .int .i64 0, .int .i64 0, .int .i64 0] from rfl, show (none : Option Rl).isSome = false from rfl] at HRU
                clear hoy hrk hbi
                go_wp2_with fail
                refine HRU.out.mono ?_
                rintro e w3 ⟨rfl, hB3⟩
                have hba := bel_alloc hB3 (.cells #[.int .i64 0, .int .i64 0, .int .i64 0, .int .i64 0, .int .i64 0] 24)
                have HL3 := hid' (bel_then HL.out hba)
                have HK3 := hid' (HKB.out.below hba)
                have hb3 : w.heap.size ≠ w3.heap.size := by have := (HKB.out.below hB3).lt; omega
                have c0 : (w3.alloc (.cells #[.int .i64 0, .int .i64 0, .int .i64 0, .int .i64 0, .int .i64 0] 24)).cell? ⟨w.heap.size, 0, none⟩ = some (.slice none 0 0) := by simpa using HK3.out.cell 0
                have c1 : (w3.alloc (.cells #[.int .i64 0, .int .i64 0, .int .i64 0, .int .i64 0, .int .i64 0] 24)).cell? ⟨w.heap.size, 1, none⟩ = some (.int .i64 0) := by simpa using HK3.out.cell 1
                have c2 : (w3.alloc (.cells #[.int .i64 0, .int .i64 0, .int .i64 0, .int .i64 0, .int .i64 0] 24)).cell? ⟨w.heap.size, 2, none⟩ = some (.int .i64 0) := by simpa using HK3.out.cell 2
                have f0 := HK3.out.frozen 0
                have f1 := HK3.out.frozen 1
                have f2 := HK3.out.frozen 2
                have hsh := HK3.out.shape
                clear hB3 hba
                go_wp2
                refine bodyPost_ret (v := .tuple #[.agg #[.slice none 0 0, .int .i64 0, .int .i64 0], .int .i64 ((k : Int) + 2)]) ?_ rfl ?_
                · rw [results_cell_tmp rfl]; first | done | go_simp
                · refine ⟨.inl ⟨by rw [HPB2.out]; omega, by rw [HPB2.out]; rfl⟩, ?_⟩
                  repeat (first | exact HL3.out | refine bel_set ?_ (by exact Nat.le_refl _) _ | refine bel_alloc ?_ _)
              | some r =>
                have hrk : rokP y = true := by unfold rokP; rw [hoy]; rfl
                have hrv : rvP y = r := by unfold rvP; rw [hoy]; rfl
                have HRK := hid' hrk
                have HRV := hid' hrv
                obtain ⟨r0, r1, r2, r3, r4⟩ := r
                rw [hoy, show rlRes (some (r0, r1, r2, r3, r4)) = .agg #[.int .i64 r0, .int .i64 r1, .int .i64 r2, .int .i64 r3, .int .i64 r4] from rfl, show (some (r0, r1, r2, r3, r4)).isSome = true from rfl] at HRU
                clear hoy hrk hrv
                go_wp2_with fail
                refine HRU.out.mono ?_
                rintro e w3 ⟨rfl, hB3⟩
                have hba := bel_alloc hB3 (.cells #[.int .i64 r0, .int .i64 r1, .int .i64 r2, .int .i64 r3, .int .i64 r4] 24)
                have HL4 := hid' (bel_then HL.out hba)
                have HK4 := hid' (HKB.out.below hba)
                have HJ4 := hid' (HJ.out.below hba)
                have HO4 := hid' (own_below HOWN.out hba)
                have hb3 : b7 < w3.heap.size := (HJ.out.below hB3).lt
                have hsz4 : (w3.alloc (.cells #[.int .i64 r0, .int .i64 r1, .int .i64 r2, .int .i64 r3, .int .i64 r4] 24)).heap.size = w3.heap.size + 1 := by simp
                have c0 : (w3.alloc (.cells #[.int .i64 r0, .int .i64 r1, .int .i64 r2, .int .i64 r3, .int .i64 r4] 24)).cell? ⟨b7, 0, none⟩ = some v := by simpa using HJ4.out.cell 0
                have hbase : b7 + 1 ≤ (w3.alloc (.cells #[.int .i64 r0, .int .i64 r1, .int .i64 r2, .int .i64 r3, .int .i64 r4] 24)).heap.size := by omega
                have h8 : (k + 1) * 40 ≤ 140737488355328 := by omega
                have hone := hid' (fRl_one (r0, r1, r2, r3, r4))
                clear hB3 hba
                go_wp2_with (at_builtin; (refine ap_cells (b7 + 1) rfl (.tmp 66) (.tmp 68) 25 24 (.agg #[.int .i64 0, .int .i64 0, .int .i64 0, .int .i64 0, .int .i64 0]) 5 40 rfl (by kernel_rfl) (by kernel_rfl) rfl (by decide) (by decide) _ k (rlRows (l.take k)) [.int .i64 r0, .int .i64 r1, .int .i64 r2, .int .i64 r3, .int .i64 r4] rfl (by rw [hsz4]; rfl) rfl hone.out HO4.out hbase h8 ?_); intro v1 w5 hown5 hg5 hat5; obtain ⟨A9, c9, rfl⟩ := own_len0 hown5; have HJ5 := hid' (HJ4.out.mod (Mod.of_grown hg5) (fun e => by have := own_base' HO4.out _ e; omega)); have d0 : w5.cell? ⟨b7, 0, none⟩ = some v := (by simpa using HJ5.out.cell 0); have g0 := HJ5.out.frozen 0; have gsh := HJ5.out.shape)
                have hb2n : w.heap.size ≠ b7 := by omega
                refine ⟨⟨k + 1, .slice A9 (k + 1) c9, by omega, by go_num, fun j z hj hz => ?_, HJ5.out.set 0 (.slice A9 (k + 1) c9), ?_, ?_, ?_⟩, by simp only [intOf]; omega⟩
                · by_cases hjk : j = k
                  · subst hjk; rw [HY.out] at hz; rw [← Option.some.inj hz]; exact HRK.out
                  · exact HOK.out j z (by omega) hz
                · rw [rlRows_take HY.out, HRV.out]
                  exact own_set' hown5 (p := ⟨b7, 0, none⟩) (fun e => by have h9 := own_base' hown5 b7 e; omega) _
                · exact (HK4.out.mod (Mod.of_grown hg5) (fun e => by have h9 := own_base' HO4.out _ e; omega)).far hb2n _
                · exact bel_set (bel_mod HL4.out (Mod.of_grown hg5) (fun i hi e => by have h9 := own_base' HO4.out i e; omega)) (p := ⟨b7, 0, none⟩) (by show w.heap.size ≤ b7; omega) _
            · obtain rfl : k = l.length := by omega
              have hbi := badIdx_none hok
              have HPB2 := hid' (show parseBad (x :: l) = 0 by
                show (match headP (bL x) with | none => 1 | some _ => match badIdx l with | some k => k + 2 | none => 0) = 0
                rw [HHP.out, hbi])
              have HOKA := hid' (show ∀ y ∈ l, rokP y = true by
                intro y hy
                obtain ⟨j, hj, e⟩ := List.mem_iff_getElem.1 hy
                exact hok j y hj (by rw [List.getElem?_eq_getElem hj, e]))
              rw [List.take_length] at HOWN
              obtain ⟨A9, c9, rfl⟩ := own_len0 hown
              have d0 : wr.cell? ⟨b7, 0, none⟩ = some (.slice A9 l.length c9) := by simpa using hJ.cell 0
              have d1 : wr.cell? ⟨b7, 1, none⟩ = some (.int .i64 a) := by simpa using hJ.cell 1
              have d2 : wr.cell? ⟨b7, 2, none⟩ = some (.int .i64 b) := by simpa using hJ.cell 2
              have c0 : wr.cell? ⟨w.heap.size, 0, none⟩ = some (.slice none 0 0) := by simpa using hKB.cell 0
              have c1 : wr.cell? ⟨w.heap.size, 1, none⟩ = some (.int .i64 0) := by simpa using hKB.cell 1
              have c2 : wr.cell? ⟨w.heap.size, 2, none⟩ = some (.int .i64 0) := by simpa using hKB.cell 2
              have f0 := hKB.frozen 0
              have f1 := hKB.frozen 1
              have f2 := hKB.frozen 2
              have hsh := hKB.shape
              have hne : w.heap.size ≠ b7 := by omega
              clear hok hJ hown hKB hL hcutl hbi
              go_wp2
              refine bodyPost_ret (v := .tuple #[.agg #[.slice A9 l.length c9, .int .i64 a, .int .i64 b], .int .i64 0]) ?_ rfl ?_
              · rw [results_cell_tmp rfl]; first | done | go_simp
              · refine ⟨.inr ⟨HPB2.out, x, l, a, b, _, rfl, HHP.out, rfl, ?_, HOKA.out⟩, ?_⟩
                · have hnw : ∀ p : Addr, p.block = w.heap.size → (Value.slice A9 l.length c9).ownBlock ≠ some p.block := fun p hp e => by have := own_base' HOWN.out _ e; omega
                  refine own_set' (own_set' (own_set' (own_lower HOWN.out (by omega)) (p := ⟨w.heap.size, 0, none⟩) (hnw _ rfl) _) (p := ⟨w.heap.size, 1, none⟩) (hnw _ rfl) _) (p := ⟨w.heap.size, 2, none⟩) (hnw _ rfl) _
                · repeat (first | exact HL.out | refine bel_set ?_ (by exact Nat.le_refl _) _)
        · have hl1i : ((T.length : Int) != 2) = true := by rw [bne_iff_ne]; omega
          have hpb := HPB.out (by rw [hro, if_neg (fun h => hl2 h.2)])
          have HPB' := hid' hpb
          clear hro hw1 hb hrd hpb
          go_wp2
          refine bodyPost_ret (v := .tuple #[.agg #[.slice none 0 0, .int .i64 0, .int .i64 0], .int .i64 1]) ?_ rfl ?_
          · rw [results_cell_tmp rfl]; first | done | go_simp
          · refine ⟨.inl ⟨by rw [HPB'.out]; decide, by rw [HPB'.out]; rfl⟩, ?_⟩
            repeat (first | exact HL2.out | refine bel_set ?_ (by exact Nat.le_refl _) _)
      · have hn1 : (H.toList == [115, 111, 117, 114, 99, 101]) = false := by have h := strNe (b := strOf wSource) hw1; rwa [show (strOf wSource).toList = [115, 111, 117, 114, 99, 101] from ByteArray.toList_eq _] at h
        have hb1 : bL H ≠ wSource := fun h => hw1 (bL_inj (by rw [bL_str]; exact h))
        have hpb := HPB.out (by rw [hro, if_neg (fun h => hb1 h.1)])
        have HPB' := hid' hpb
        clear hro hw1 hb1 hrd hpb
        go_wp2
        refine bodyPost_ret (v := .tuple #[.agg #[.slice none 0 0, .int .i64 0, .int .i64 0], .int .i64 1]) ?_ rfl ?_
        · rw [results_cell_tmp rfl]; first | done | go_simp
        · refine ⟨.inl ⟨by rw [HPB'.out]; decide, by rw [HPB'.out]; rfl⟩, ?_⟩
          repeat (first | exact HL2.out | refine bel_set ?_ (by exact Nat.le_refl _) _)
    · have hpb := HPB.out (by rw [hro, hk]; rfl)
      have HPB' := hid' hpb
      clear hro hk hpb
      cases hq : (H.toList == [115, 111, 117, 114, 99, 101]) with
      | true =>
        have hq2 : H.toList = [115, 111, 117, 114, 99, 101] := by simpa using hq
        clear hq
        go_wp2
        refine bodyPost_ret (v := .tuple #[.agg #[.slice none 0 0, .int .i64 0, .int .i64 0], .int .i64 1]) ?_ rfl ?_
        · rw [results_cell_tmp rfl]; first | done | go_simp
        · refine ⟨.inl ⟨by rw [HPB'.out]; decide, by rw [HPB'.out]; rfl⟩, ?_⟩
          repeat (first | exact HL2.out | refine bel_set ?_ (by exact Nat.le_refl _) _)
      | false =>
        go_wp2
        refine bodyPost_ret (v := .tuple #[.agg #[.slice none 0 0, .int .i64 0, .int .i64 0], .int .i64 1]) ?_ rfl ?_
        · rw [results_cell_tmp rfl]; first | done | go_simp
        · refine ⟨.inl ⟨by rw [HPB'.out]; decide, by rw [HPB'.out]; rfl⟩, ?_⟩
          repeat (first | exact HL2.out | refine bel_set ?_ (by exact Nat.le_refl _) _)
end Go.Proofs.YtockkjhciojgbaaGreatDoor
/- ConfigI -/
/- What the configurations' laws say of the package, walked. No condition but the tables and variables of Go's own library. -/
namespace Go.Proofs.YtockkjhciojgbaaGreatDoor
set_option maxRecDepth 100000
set_option linter.unusedSimpArgs false
open Go.RowKit
set_option linter.unusedVariables false
set_option linter.unusedSimpArgs false

theorem flat_get : ∀ {l : List Rl} {j : Nat} {x : Rl}, l[j]? = some x → ∀ i u, (fRl x)[i]? = some u → (l.flatMap fRl)[j * 5 + i]? = some u
  | [], j, x, h, _, _, _ => by simp at h
  | r :: l, 0, x, h, i, u, hi => by
    simp at h; subst h
    have hl : i < (fRl r).length := (List.getElem?_eq_some_iff.1 hi).1
    rw [List.flatMap_cons, Nat.zero_mul, Nat.zero_add, List.getElem?_append_left hl]
    exact hi
  | r :: l, j + 1, x, h, i, u, hi => by
    have ih := flat_get (l := l) (j := j) (x := x) (by simpa using h) i u hi
    have hr : (fRl r).length = 5 := rfl
    rw [List.flatMap_cons, List.getElem?_append_right (by omega), hr, show (j + 1) * 5 + i - 5 = j * 5 + i by omega]
    exact ih
theorem rd_rlS {w : World} {A : Option Addr} {l : List Rl} (h : Rd w A (l.flatMap fRl)) : RdS w A 5 fRl l := fun j x hx => by
  obtain ⟨ad, hA, c0⟩ := h _ _ (flat_get hx 0 (.int .i64 x.1) rfl)
  refine ⟨ad, hA, rfl, fun i u hi => ?_⟩
  obtain ⟨ad', hA', c1⟩ := h _ _ (flat_get hx i u hi)
  rw [hA] at hA'; injection hA' with hA'; subst hA'
  rw [add_add']; exact c1
theorem rlRows_map (l : List ByteArray) : rlRows l = (l.map rvP).flatMap fRl := by unfold rlRows; rw [List.flatMap_map]
theorem parse_ok (A : Option Addr) (c : Nat) (x : ByteArray) (l : List ByteArray) (a b : Int) (w : World) (hr : Rd w A ((x :: l).map .string)) (hl : (x :: l).length ≤ 1000) (hlc : (x :: l).length ≤ c) (hz : ∀ y ∈ x :: l, y.size ≤ 10000) (hP : PowT w) (hE : ErV w) (hM : MaxT w)
    (hh : headP (bL x) = some (a, b)) (hok : ∀ y ∈ l, rokP y = true) :
    Calls Tryz.prog 71 #[.slice A (x :: l).length c] w fun e w' => (∃ A' c', e = .returned (.tuple #[.agg #[.slice A' l.length c', .int .i64 a, .int .i64 b], .int .i64 0]) ∧ RdS w' A' 5 fRl (l.map rvP)) ∧ Below w.heap.size w w' := by
  have hpb : parseBad (x :: l) = 0 := by
    show (match headP (bL x) with | none => 1 | some _ => match badIdx l with | some k => k + 2 | none => 0) = 0
    rw [hh, badIdx_none (fun j y hj hy => hok y (List.mem_of_getElem? hy))]
  refine (config_Parse A c (x :: l) w hr (by omega) hlc hz hP hE hM).mono ?_
  rintro e w' ⟨hc, hB⟩
  rcases hc with ⟨hc, _⟩ | ⟨_, x2, l2, a2, b2, v, hx, hh2, he, hown, _⟩
  · exact absurd hpb hc
  · simp only [List.cons.injEq] at hx
    obtain ⟨rfl, rfl⟩ := hx
    rw [hh] at hh2
    simp only [Option.some.injEq, Prod.mk.injEq] at hh2
    obtain ⟨rfl, rfl⟩ := hh2
    obtain ⟨A', c', rfl, _, _, hrd⟩ := own_rd hown
    rw [rlRows_map] at hrd
    exact ⟨⟨A', c', he, rd_rlS hrd⟩, hB⟩
theorem parse_bad (A : Option Addr) (c : Nat) (xs : List ByteArray) (w : World) (hr : Rd w A (xs.map .string)) (hl : xs.length ≤ 1000) (hlc : xs.length ≤ c) (hz : ∀ y ∈ xs, y.size ≤ 10000) (hP : PowT w) (hE : ErV w) (hM : MaxT w)
    (hb : parseBad xs ≠ 0) :
    Calls Tryz.prog 71 #[.slice A xs.length c] w fun e w' => e = .returned (.tuple #[.agg #[.slice none 0 0, .int .i64 0, .int .i64 0], .int .i64 (parseBad xs : Int)]) ∧ Below w.heap.size w w' := by
  refine (config_Parse A c xs w hr (by omega) hlc hz hP hE hM).mono ?_
  rintro e w' ⟨hc, hB⟩
  rcases hc with ⟨_, he⟩ | ⟨h, _⟩
  · exact ⟨he, hB⟩
  · exact absurd h hb
def s510 : ByteArray := ⟨#[115, 111, 117, 114, 99, 101, 32, 53, 32, 49, 48]⟩
def sB3 : ByteArray := ⟨#[98, 111, 117, 110, 100, 101, 100, 32, 51]⟩
def sB : ByteArray := ⟨#[98, 111, 117, 110, 100, 101, 100]⟩
theorem itoa1 {d : Nat} (h : d < 10) : Lib.itoa (d : Int) = [UInt8.ofNat (48 + d)] := itoa_pos_small h
theorem itoa_10 : Lib.itoa 10 = [49, 48] := by
  rw [show (10 : Int) = ((10 : Nat) : Int) from rfl, itoa_pos_big (by decide), show 10 / 10 = 1 from rfl, itoa_pos_small (by decide)]; rfl
theorem s510_head : headP (bL s510) = some (5, 10) := by
  have h : bL s510 = wSource ++ wordsL [5, 10] := by
    unfold wordsL
    rw [List.flatMap_cons, List.flatMap_cons, List.flatMap_nil, itoa_10, show (5 : Int) = ((5 : Nat) : Int) from rfl, itoa1 (by decide)]; rfl
  rw [h]
  exact headP_back (by unfold I64; decide) (by unfold I64; decide)
theorem sB3_rule : ruleP (bL sB3) = some (0, 3, 0, 0, 0) := by
  have h : bL sB3 = wBounded ++ wordsL [3] := by
    unfold wordsL
    rw [List.flatMap_cons, List.flatMap_nil, show (3 : Int) = ((3 : Nat) : Int) from rfl, itoa1 (by decide)]; rfl
  rw [h, ruleP_words (by decide) (by intro x hx; rw [List.mem_singleton] at hx; subst hx; unfold I64; decide)]
  rfl
theorem sB_rule : ruleP (bL sB) = none := by
  have h : bL sB = wBounded ++ wordsL [] := rfl
  rw [h, ruleP_words (by decide) (by intro x hx; cases hx)]
  rfl
end Go.Proofs.YtockkjhciojgbaaGreatDoor
/- ConfigJ -/
/- A configuration's text, line by line: the plain law. No program. -/
namespace Go.Proofs.YtockkjhciojgbaaGreatDoor
set_option maxRecDepth 100000
set_option linter.unusedSimpArgs false
open Go.RowKit
set_option linter.unusedVariables false
set_option linter.unusedSimpArgs false

def lnOf (r : Rl) : List UInt8 := (rlL r).dropLast
theorem lnOf_back {r : Rl} (h : rlI r) (ho : rlO r = true) : rlL r = lnOf r ++ [10] ∧ (10 : UInt8) ∉ lnOf r ∧ ruleP (lnOf r) = some r := by
  obtain ⟨l, h1, h2, h3⟩ := ruleP_back h ho
  have : lnOf r = l := by unfold lnOf; rw [h1, List.dropLast_concat]
  rw [this]; exact ⟨h1, h2, h3⟩
def hdOf (t d : Int) : List UInt8 := wSource ++ wordsL [t, d]
def lnsOf (l : List Rl) (t d : Int) : List (List UInt8) := hdOf t d :: l.map lnOf
theorem cfgL_lns {l : List Rl} {t d : Int} (h : ∀ r ∈ l, rlI r) (ho : ∀ r ∈ l, rlO r = true) : cfgL l t d = (lnsOf l t d).flatMap fun x => x ++ [10] := by
  unfold cfgL lnsOf
  rw [List.flatMap_cons]
  congr 1
  rw [List.flatMap_map]
  induction l with
  | nil => rfl
  | cons r l ih =>
    rw [List.flatMap_cons, List.flatMap_cons, (lnOf_back (h r (List.mem_cons_self ..)) (ho r (List.mem_cons_self ..))).1, ih (fun x hx => h x (List.mem_cons_of_mem _ hx)) (fun x hx => ho x (List.mem_cons_of_mem _ hx))]
theorem lnsOf_no {l : List Rl} {t d : Int} (h : ∀ r ∈ l, rlI r) (ho : ∀ r ∈ l, rlO r = true) : ∀ x ∈ lnsOf l t d, (10 : UInt8) ∉ x := by
  intro x hx
  rcases List.mem_cons.1 hx with rfl | hx
  · exact words_no10 (by decide) _
  · obtain ⟨r, hr, rfl⟩ := List.mem_map.1 hx
    exact (lnOf_back (h r hr) (ho r hr)).2.1
theorem spl_lns : ∀ {ls : List (List UInt8)}, (∀ x ∈ ls, (10 : UInt8) ∉ x) → spl 10 (ls.flatMap fun x => x ++ [10]) = ls ++ [[]]
  | [], _ => rfl
  | x :: ls, h => by
    have ih := spl_lns (ls := ls) (fun y hy => h y (List.mem_cons_of_mem _ hy))
    rw [List.flatMap_cons, List.append_assoc]
    have hc := spl_cut (ls.flatMap fun x => x ++ [10]) (h x (List.mem_cons_self ..))
    rw [ih] at hc
    exact hc
theorem spl_cfg {l : List Rl} {t d : Int} (h : ∀ r ∈ l, rlI r) (ho : ∀ r ∈ l, rlO r = true) : spl 10 (cfgL l t d) = lnsOf l t d ++ [[]] := by
  rw [cfgL_lns h ho, spl_lns (lnsOf_no h ho)]
/-- texts that are such lines are read as the configuration -/
theorem lns_read {l : List Rl} {t d : Int} (h : ∀ r ∈ l, rlI r) (ho : ∀ r ∈ l, rlO r = true) (ht : I64 t) (hd : I64 d) {xs : List ByteArray} (hx : xs.map bL = lnsOf l t d) :
    ∃ x ys, xs = x :: ys ∧ headP (bL x) = some (t, d) ∧ (∀ y ∈ ys, rokP y = true) ∧ ys.map rvP = l ∧ ys.length = l.length := by
  cases xs with
  | nil => cases hx
  | cons x ys =>
    have hx' : bL x :: ys.map bL = hdOf t d :: l.map lnOf := hx
    injection hx' with h1 h2
    refine ⟨x, ys, rfl, by rw [h1]; exact headP_back ht hd, fun y hy => ?_, ?_, by have := congrArg List.length h2; simpa using this⟩
    · have : bL y ∈ l.map lnOf := by rw [← h2]; exact List.mem_map_of_mem hy
      obtain ⟨r, hr, e⟩ := List.mem_map.1 this
      unfold rokP
      rw [← e, (lnOf_back (h r hr) (ho r hr)).2.2]; rfl
    · have : ys.map rvP = (ys.map bL).map fun z => (ruleP z).getD (0, 0, 0, 0, 0) := by rw [List.map_map]; rfl
      rw [this, h2, List.map_map]
      conv => rhs; rw [← List.map_id l]
      apply List.map_congr_left
      intro r hr
      show (ruleP (lnOf r)).getD _ = r
      rw [(lnOf_back (h r hr) (ho r hr)).2.2]; rfl
theorem all_take {l : List Rl} {k : Nat} {r : Rl} (h : l[k]? = some r) : (l.take (k + 1)).all rlO = ((l.take k).all rlO && rlO r) := by
  rw [List.take_add_one, h, List.all_append]; simp
end Go.Proofs.YtockkjhciojgbaaGreatDoor
/- WordsPure -/
/- In words: no line is a choice and a rule: the plain law. No program. -/
namespace Go.Proofs.YtockkjhciojgbaaGreatDoor
set_option maxRecDepth 100000
set_option linter.unusedSimpArgs false
open Go.RowKit
set_option linter.unusedVariables false
set_option linter.unusedSimpArgs false

theorem spl_end (c : UInt8) : ∀ a : List UInt8, spl c (a ++ [c]) = spl c a ++ [[]]
  | [] => by simp [spl]
  | x :: a => by
    have ih := spl_end c a
    rw [List.cons_append]
    unfold spl
    rw [ih]
    by_cases hx : x = c
    · rw [if_pos hx, if_pos hx]; rfl
    · rw [if_neg hx, if_neg hx]
      cases hs : spl c a with
      | nil => exact absurd hs (spl_ne c a)
      | cons h t => rfl
/-- a word ahead of numbers, the first one of them there -/
def isLine (x : List UInt8) : Prop := ∃ w n l, x = w ++ wordsL (n :: l) ∧ (32 : UInt8) ∉ w ∧ w ≠ pollL ∧ w ≠ tickL
theorem line_noRead {x : List UInt8} (h : isLine x) : readP x = none := by
  obtain ⟨w, n, l, rfl, h1, h2, h3⟩ := h
  have hw : w ++ wordsL (n :: l) = w ++ 32 :: (Lib.itoa n ++ wordsL l) := by unfold wordsL; rw [List.flatMap_cons]; rfl
  unfold readP
  rw [hw, cutS_at 32 w _ h1]
  simp only [if_true]
  split
  · rw [if_neg h2, if_neg h3]
  · rfl
theorem lnOf_line {r : Rl} (h : rlI r) (ho : rlO r = true) : isLine (lnOf r) := by
  obtain ⟨k, b, p, n, s⟩ := r
  unfold rlO onlyB at ho
  simp only at ho
  have hl : ∀ (w : List UInt8) (l : List Int), (lnL w l).dropLast = w ++ wordsL l := fun w l => by unfold lnL; rw [List.dropLast_concat]
  unfold lnOf rlL ruleL
  simp only
  split at ho
  · rename_i k0
    rw [if_pos k0, hl]
    exact ⟨wBounded, b, [], rfl, by decide, by decide, by decide⟩
  · rename_i k0
    split at ho
    · rename_i k1
      rw [if_neg k0, if_pos k1, hl]
      exact ⟨wMarked, s, [], rfl, by decide, by decide, by decide⟩
    · rename_i k1
      split at ho
      · rename_i k2
        rw [if_neg k0, if_neg k1, if_pos k2, hl]
        exact ⟨wPercent, p, [n], rfl, by decide, by decide, by decide⟩
      · cases ho
theorem lns_noRead {l : List Rl} {t d : Int} (h : ∀ r ∈ l, rlI r) (ho : ∀ r ∈ l, rlO r = true) : ∀ x ∈ lnsOf l t d, readP x = none := by
  intro x hx
  rcases List.mem_cons.1 hx with rfl | hx
  · exact line_noRead ⟨wSource, t, [d], rfl, by decide, by decide, by decide⟩
  · obtain ⟨r, hr, rfl⟩ := List.mem_map.1 hx
    exact line_noRead (lnOf_line (h r hr) (ho r hr))
theorem line_noRule (t : Bool) {n : Int} (h : I64 n) : ruleP (lineL t n) = none := by
  have hw : ∀ w : List UInt8, w ++ 32 :: Lib.itoa n = w ++ wordsL [n] := fun w => by unfold wordsL; rw [List.flatMap_cons, List.flatMap_nil, List.append_nil]
  have hI : ∀ x ∈ [n], I64 x := by intro x hx; rw [List.mem_singleton] at hx; subst hx; exact h
  unfold lineL
  cases t with
  | true =>
    rw [if_pos rfl, hw, ruleP_words (by decide) hI]
    unfold ruleN
    rw [if_neg (fun h => absurd h.1 (by decide)), if_neg (fun h => absurd h.1 (by decide)), if_neg (fun h => absurd h.1 (by decide))]
  | false =>
    rw [show (if false = true then tickL else pollL) = pollL from rfl, hw, ruleP_words (by decide) hI]
    unfold ruleN
    rw [if_neg (fun h => absurd h.1 (by decide)), if_neg (fun h => absurd h.1 (by decide)), if_neg (fun h => absurd h.1 (by decide))]
theorem trim_cfg {l : List Rl} {t d : Int} (h : ∀ r ∈ l, rlI r) (ho : ∀ r ∈ l, rlO r = true) : ∃ s, cfgL l t d = s ++ [10] ∧ spl 10 s = lnsOf l t d := by
  have h1 := spl_cfg (t := t) (d := d) h ho
  have h2 : ∃ s, cfgL l t d = s ++ [10] := by
    rw [cfgL_lns h ho]
    have hne : lnsOf l t d ≠ [] := by simp [lnsOf]
    obtain ⟨ls, z, hz⟩ : ∃ ls z, lnsOf l t d = ls ++ [z] := ⟨_, _, (List.dropLast_concat_getLast hne).symm⟩
    rw [hz, List.flatMap_append]
    exact ⟨(ls.flatMap fun x => x ++ [10]) ++ z, by simp⟩
  obtain ⟨s, hs⟩ := h2
  refine ⟨s, hs, ?_⟩
  rw [hs, spl_end] at h1
  exact List.append_cancel_right h1
theorem trim_suffix (s : List UInt8) : Lib.trimSuffix (s ++ [10]) [10] = s := by
  unfold Lib.trimSuffix Lib.hasSuffix
  have h : ([10] : List UInt8).isSuffixOf (s ++ [10]) = true := List.isSuffixOf_iff_suffix.2 (List.suffix_append s [10])
  rw [if_pos h]
  simp
end Go.Proofs.YtockkjhciojgbaaGreatDoor
/- ScriptPure -/
/- A script in words (package report), and back: the plain law. No program. -/
namespace Go.Proofs.YtockkjhciojgbaaGreatDoor
set_option maxRecDepth 100000
set_option linter.unusedSimpArgs false
open Go.RowKit
set_option linter.unusedVariables false
set_option linter.unusedSimpArgs false

/-! ### what config.Parse makes of lines -/
def allR : List (List UInt8) → Option (List Rl)
  | [] => some []
  | x :: l => match ruleP x, allR l with
    | some r, some rs => some (r :: rs)
    | _, _ => none
/-- the configuration of lines, or none -/
def cfgO : List (List UInt8) → Option (List Rl × Int × Int)
  | [] => none
  | x :: l => match headP x, allR l with
    | some h, some rs => some (rs, h.1, h.2)
    | _, _ => none
theorem allR_cons (x : List UInt8) (l : List (List UInt8)) : allR (x :: l) = (match ruleP x, allR l with | some r, some rs => some (r :: rs) | _, _ => none) := rfl
theorem cfgO_cons (x : List UInt8) (l : List (List UInt8)) : cfgO (x :: l) = (match headP x, allR l with | some h, some rs => some (rs, h.1, h.2) | _, _ => none) := rfl
theorem allR_app : ∀ (a b : List (List UInt8)), allR (a ++ b) = (match allR a, allR b with | some x, some y => some (x ++ y) | _, _ => none)
  | [], b => by
    rw [List.nil_append]
    show allR b = (match some [], allR b with | some x, some y => some (x ++ y) | _, _ => none)
    cases allR b <;> rfl
  | x :: a, b => by
    have ih := allR_app a b
    rw [List.cons_append, allR_cons, allR_cons, ih]
    cases ruleP x <;> cases allR a <;> cases allR b <;> rfl
theorem cfgO_pre {a b : List (List UInt8)} (h : (cfgO (a ++ b)).isSome = true) (ha : a ≠ []) : (cfgO a).isSome = true := by
  cases a with
  | nil => exact absurd rfl ha
  | cons x a =>
    rw [List.cons_append, cfgO_cons, allR_app] at h
    rw [cfgO_cons]
    cases hh : headP x <;> rw [hh] at h <;> cases hr : allR a <;> rw [hr] at h
    · exact absurd h (by simp)
    · exact absurd h (by simp)
    · exact absurd h (by simp)
    · rfl
theorem allR_lns {l : List Rl} (h : ∀ r ∈ l, rlI r) (ho : ∀ r ∈ l, rlO r = true) : allR (l.map lnOf) = some l := by
  induction l with
  | nil => rfl
  | cons r l ih =>
    have h1 := (lnOf_back (h r (List.mem_cons_self ..)) (ho r (List.mem_cons_self ..))).2.2
    have h2 := ih (fun x hx => h x (List.mem_cons_of_mem _ hx)) (fun x hx => ho x (List.mem_cons_of_mem _ hx))
    rw [List.map_cons, allR_cons, h1, h2]
theorem cfgO_lns {l : List Rl} {t d : Int} (h : ∀ r ∈ l, rlI r) (ho : ∀ r ∈ l, rlO r = true) (ht : I64 t) (hd : I64 d) : cfgO (lnsOf l t d) = some (l, t, d) := by
  unfold lnsOf
  rw [cfgO_cons, show headP (hdOf t d) = some (t, d) from headP_back ht hd, allR_lns h ho]
theorem allR_some : ∀ {ls : List (List UInt8)} {l : List Rl}, allR ls = some l → ls = l.map lnOf ∧ (∀ r ∈ l, rlI r ∧ rlO r = true)
  | [], l, h => by
    have : l = [] := by simpa [allR] using h.symm
    subst this
    exact ⟨rfl, fun r hr => by cases hr⟩
  | x :: ls, l, h => by
    rw [allR_cons] at h
    cases hr : ruleP x with
    | none => rw [hr] at h; cases h
    | some r =>
      cases ha : allR ls with
      | none => rw [hr, ha] at h; cases h
      | some rs =>
        rw [hr, ha] at h
        have hl := Option.some.inj h
        subst hl
        obtain ⟨h1, h2⟩ := allR_some ha
        obtain ⟨g1, g2, g3⟩ := ruleP_some hr
        have hx : x = lnOf r := by unfold lnOf; rw [g1, List.dropLast_concat]
        refine ⟨by rw [List.map_cons, ← hx, ← h1], fun y hy => ?_⟩
        rcases List.mem_cons.1 hy with rfl | hy
        · exact ⟨g3, g2⟩
        · exact h2 y hy
theorem cfgO_some {ls : List (List UInt8)} {l : List Rl} {t d : Int} (h : cfgO ls = some (l, t, d)) : ls = lnsOf l t d ∧ (∀ r ∈ l, rlI r ∧ rlO r = true) ∧ I64 t ∧ I64 d := by
  cases ls with
  | nil => cases h
  | cons x ls =>
    rw [cfgO_cons] at h
    cases hh : headP x with
    | none => rw [hh] at h; cases h
    | some p =>
      cases ha : allR ls with
      | none => rw [hh, ha] at h; cases h
      | some rs =>
        rw [hh, ha] at h
        have hl := Option.some.inj h
        obtain ⟨a, b⟩ := p
        simp only [Prod.mk.injEq] at hl
        obtain ⟨rfl, rfl, rfl⟩ := hl
        obtain ⟨h1, h2⟩ := allR_some ha
        obtain ⟨g1, g2, g3⟩ := headP_some hh
        have hx : x = hdOf a b := by
          have h3 : lnL wSource [a, b] = (wSource ++ wordsL [a, b]) ++ [10] := rfl
          rw [h3] at g1
          exact (List.append_inj_left' g1 rfl).symm
        exact ⟨by unfold lnsOf; rw [← hx, ← h1], h2, g2, g3⟩
/-! ### a script on its way -/
structure RSt where
  head : List (List UInt8)
  cfg : List Rl × Int × Int
  logs : List (List UInt8)
  chs : List (Bool × Int)
  part : Nat
def wLog : List UInt8 := [108, 111, 103, 32]
def isLog (s : List UInt8) : Bool := decide (s.take 4 = wLog)
/-- one line -/
def lineR (r : RSt) (s : List UInt8) : RSt × Bool :=
  if isLog s = true ∧ r.part < 2 ∧ r.head ≠ [] then ({ r with logs := r.logs ++ [(unqP (s.drop 4)).getD []], part := 1 }, (unqP (s.drop 4)).isSome)
  else match readP s with
    | some c => if r.head ≠ [] then ({ r with chs := r.chs ++ [c], part := 2 }, true) else
        (if 0 < r.part then (r, false) else ({ r with head := r.head ++ [s], cfg := (cfgO (r.head ++ [s])).getD ([], 0, 0) }, (cfgO (r.head ++ [s])).isSome))
    | none => if 0 < r.part then (r, false) else ({ r with head := r.head ++ [s], cfg := (cfgO (r.head ++ [s])).getD ([], 0, 0) }, (cfgO (r.head ++ [s])).isSome)
def r0 : RSt := ⟨[], ([], 0, 0), [], [], 0⟩
/-- lines, one behind the other: where it is; or how many of them are good -/
def linesR (r : RSt) : List (List UInt8) → RSt ⊕ Nat
  | [] => .inl r
  | s :: l => if (lineR r s).2 = true then (match linesR (lineR r s).1 l with | .inl x => .inl x | .inr k => .inr (k + 1)) else .inr 0
def logL (x : List UInt8) : List UInt8 := wLog ++ quoteP ⟨x.toArray⟩
/-- what a script on its way is made of -/
def RSt.lines (r : RSt) : List (List UInt8) := r.head ++ r.logs.map logL ++ r.chs.map fun c => lineL c.1 c.2
/-- it is well on its way -/
def RSt.ok (r : RSt) : Prop :=
  (r.head = [] ∧ r.logs = [] ∧ r.chs = [] ∧ r.part = 0 ∧ r.cfg = ([], 0, 0) ∨ cfgO r.head = some r.cfg) ∧ (r.part < 2 → r.chs = []) ∧ (r.part = 0 → r.logs = []) ∧ r.part ≤ 2 ∧ ∀ c ∈ r.chs, I64 c.2
theorem isLog_drop {s : List UInt8} (h : isLog s = true) : s = wLog ++ s.drop 4 := by
  have : s.take 4 = wLog := by simpa [isLog] using h
  rw [← this, List.take_append_drop]
theorem line_ok {r : RSt} {s : List UInt8} (h : r.ok) (hl : (lineR r s).2 = true) : (lineR r s).1.ok ∧ (lineR r s).1.lines = r.lines ++ [s] ∧ (lineR r s).1.head ≠ [] := by
  obtain ⟨h1, h2, h3, h4, h5⟩ := h
  unfold lineR at hl ⊢
  by_cases hc : isLog s = true ∧ r.part < 2 ∧ r.head ≠ []
  · rw [if_pos hc] at hl ⊢
    obtain ⟨g1, g2, g3⟩ := hc
    cases hu : unqP (s.drop 4) with
    | none => rw [hu] at hl; cases hl
    | some x =>
      have hch := h2 g2
      have hq := unqP_one hu
      refine ⟨⟨.inr ?_, fun _ => hch, fun e => absurd (show (1 : Nat) = 0 from e) (by decide), by show 1 ≤ 2; omega, h5⟩, ?_, g3⟩
      · rcases h1 with e | e
        · exact absurd e.1 g3
        · exact e
      · unfold RSt.lines
        simp only [hch, List.map_nil, List.append_nil, List.map_append, List.map_cons, Option.getD_some]
        rw [← List.append_assoc]
        congr 1
        unfold logL
        rw [hq, ← isLog_drop g1]
  · rw [if_neg hc] at hl ⊢
    have tail : ∀ (hl : (if 0 < r.part then (r, false) else ({ r with head := r.head ++ [s], cfg := (cfgO (r.head ++ [s])).getD ([], 0, 0) }, (cfgO (r.head ++ [s])).isSome) : RSt × Bool).2 = true),
        ((if 0 < r.part then (r, false) else ({ r with head := r.head ++ [s], cfg := (cfgO (r.head ++ [s])).getD ([], 0, 0) }, (cfgO (r.head ++ [s])).isSome) : RSt × Bool).1).ok ∧ ((if 0 < r.part then (r, false) else ({ r with head := r.head ++ [s], cfg := (cfgO (r.head ++ [s])).getD ([], 0, 0) }, (cfgO (r.head ++ [s])).isSome) : RSt × Bool).1).lines = r.lines ++ [s] ∧ ((if 0 < r.part then (r, false) else ({ r with head := r.head ++ [s], cfg := (cfgO (r.head ++ [s])).getD ([], 0, 0) }, (cfgO (r.head ++ [s])).isSome) : RSt × Bool).1).head ≠ [] := by
      intro hl
      by_cases hp : 0 < r.part
      · rw [if_pos hp] at hl; cases hl
      · rw [if_neg hp] at hl ⊢
        have hp0 : r.part = 0 := by omega
        obtain ⟨y, hy⟩ := Option.isSome_iff_exists.1 hl
        refine ⟨⟨.inr (by show cfgO _ = some ((cfgO _).getD _); rw [hy]; rfl), h2, h3, h4, h5⟩, ?_, by simp⟩
        unfold RSt.lines
        simp only [h3 hp0, h2 (by omega), List.map_nil, List.append_nil]
    cases hr : readP s with
    | none =>
      rw [hr] at hl
      exact tail hl
    | some c =>
      rw [hr] at hl
      simp only at hl ⊢
      by_cases hh : r.head ≠ []
      · rw [if_pos hh] at hl ⊢
        obtain ⟨b, n⟩ := c
        obtain ⟨g1, g2⟩ := readP_some hr
        refine ⟨⟨.inr ?_, fun e => absurd (show (2 : Nat) < 2 from e) (by decide), fun e => absurd (show (2 : Nat) = 0 from e) (by decide), Nat.le_refl _, fun c hc => ?_⟩, ?_, hh⟩
        · rcases h1 with e | e
          · exact absurd e.1 hh
          · exact e
        · rcases List.mem_append.1 hc with hc | hc
          · exact h5 c hc
          · rw [List.mem_singleton] at hc; subst hc; exact g2
        · unfold RSt.lines
          simp only [List.map_append, List.map_cons, List.map_nil]
          rw [g1, ← List.append_assoc]
      · rw [if_neg hh] at hl ⊢
        exact tail hl
theorem lines_ok : ∀ {l : List (List UInt8)} {r x : RSt}, r.ok → linesR r l = .inl x → x.ok ∧ x.lines = r.lines ++ l ∧ (l ≠ [] → x.head ≠ [])
  | [], r, x, h, e => by
    have : r = x := by simpa [linesR] using e
    subst this
    exact ⟨h, by simp, fun e => absurd rfl e⟩
  | s :: l, r, x, h, e => by
    unfold linesR at e
    split at e
    · rename_i hl
      obtain ⟨g1, g2, g3⟩ := line_ok h hl
      split at e
      · rename_i y hy
        have hyx : y = x := by simpa using e
        subst hyx
        obtain ⟨k1, k2, k3⟩ := lines_ok g1 hy
        refine ⟨k1, by rw [k2, g2]; simp, fun _ => ?_⟩
        cases l with
        | nil =>
          have : (lineR r s).1 = y := by simpa [linesR] using hy
          rw [← this]; exact g3
        | cons a l => exact k3 (by simp)
      · cases e
    · cases e
theorem r0_ok : r0.ok := ⟨.inl ⟨rfl, rfl, rfl, rfl, rfl⟩, fun _ => rfl, fun _ => rfl, by decide, fun c hc => by cases hc⟩
/-- the first line that doesn't belong there: those ahead of it do -/
theorem lines_bad : ∀ {l : List (List UInt8)} {r : RSt} {k : Nat}, linesR r l = .inr k → k < l.length ∧ (∃ x, linesR r (l.take k) = .inl x) ∧ ∀ m, linesR r (l.take (k + 1) ++ m) = .inr k
  | [], r, k, e => by cases e
  | s :: l, r, k, e => by
    unfold linesR at e
    split at e
    · rename_i hl
      split at e
      · cases e
      · rename_i j hj
        have hk : j + 1 = k := by simpa using e
        subst hk
        obtain ⟨h1, ⟨x, h2⟩, h3⟩ := lines_bad hj
        refine ⟨by rw [List.length_cons]; omega, ⟨x, ?_⟩, fun m => ?_⟩
        · rw [List.take_succ_cons]
          unfold linesR
          rw [if_pos hl, h2]
        · rw [List.take_succ_cons, List.cons_append]
          unfold linesR
          rw [if_pos hl, h3 m]
    · rename_i hl
      have hk : 0 = k := by simpa using e
      subst hk
      refine ⟨by simp, ⟨r, rfl⟩, fun m => ?_⟩
      rw [List.take_succ_cons, List.cons_append]
      unfold linesR
      rw [if_neg hl]
/-! ### in words, and read again -/
theorem lines_app : ∀ {a b : List (List UInt8)} {r x y : RSt}, linesR r a = .inl x → linesR x b = .inl y → linesR r (a ++ b) = .inl y
  | [], b, r, x, y, h, h2 => by
    have : r = x := by simpa [linesR] using h
    subst this
    exact h2
  | s :: a, b, r, x, y, h, h2 => by
    rw [List.cons_append]
    unfold linesR at h ⊢
    split at h
    · rename_i hl
      rw [if_pos hl]
      split at h
      · rename_i z hz
        have : z = x := by simpa using h
        subst this
        rw [lines_app hz h2]
      · cases h
    · cases h
theorem lines_one {r : RSt} {s : List UInt8} {x : RSt} (h : lineR r s = (x, true)) : linesR r [s] = .inl x := by
  unfold linesR
  rw [h]
  rfl
theorem lnOf_word {r : Rl} (ho : rlO r = true) : ∃ w l, lnOf r = w ++ l ∧ (w = wBounded ∨ w = wMarked ∨ w = wPercent) := by
  obtain ⟨k, b, p, n, s⟩ := r
  unfold rlO onlyB at ho
  simp only at ho
  have hl : ∀ (w : List UInt8) (l : List Int), (lnL w l).dropLast = w ++ wordsL l := fun w l => by unfold lnL; rw [List.dropLast_concat]
  unfold lnOf rlL ruleL
  simp only
  split at ho
  · rename_i k0
    rw [if_pos k0, hl]
    exact ⟨_, _, rfl, .inl rfl⟩
  · rename_i k0
    split at ho
    · rename_i k1
      rw [if_neg k0, if_pos k1, hl]
      exact ⟨_, _, rfl, .inr (.inl rfl)⟩
    · rename_i k1
      split at ho
      · rename_i k2
        rw [if_neg k0, if_neg k1, if_pos k2, hl]
        exact ⟨_, _, rfl, .inr (.inr rfl)⟩
      · cases ho
theorem lnOf_noLog {r : Rl} (ho : rlO r = true) : isLog (lnOf r) = false := by
  obtain ⟨w, l, h, hw⟩ := lnOf_word ho
  unfold isLog
  rw [h, decide_eq_false_iff_not]
  rcases hw with e | e | e <;> subst e
  · rw [show (wBounded ++ l).take 4 = [98, 111, 117, 110] from rfl]; decide
  · rw [show (wMarked ++ l).take 4 = [109, 97, 114, 107] from rfl]; decide
  · rw [show (wPercent ++ l).take 4 = [112, 101, 114, 99] from rfl]; decide
theorem head_line {r : RSt} {s : List UInt8} {c : List Rl × Int × Int} (hp : r.part = 0) (hl : isLog s = false) (hn : readP s = none) (hc : cfgO (r.head ++ [s]) = some c) : lineR r s = ({ r with head := r.head ++ [s], cfg := c }, true) := by
  unfold lineR
  rw [if_neg (fun h => by rw [hl] at h; cases h.1), hn]
  simp only
  rw [if_neg (by omega), hc]
  rfl
theorem heads {l : List Rl} {t d : Int} (h : ∀ r ∈ l, rlI r) (ho : ∀ r ∈ l, rlO r = true) (ht : I64 t) (hd : I64 d) : ∀ k, k ≤ l.length → linesR r0 (lnsOf (l.take k) t d) = .inl ⟨lnsOf (l.take k) t d, (l.take k, t, d), [], [], 0⟩ := by
  intro k
  induction k with
  | zero =>
    intro _
    rw [List.take_zero]
    have hh : readP (hdOf t d) = none := line_noRead ⟨wSource, t, [d], rfl, by decide, by decide, by decide⟩
    have hc : cfgO ([] ++ [hdOf t d]) = some ([], t, d) := cfgO_lns (l := []) (fun r hr => by cases hr) (fun r hr => by cases hr) ht hd
    exact lines_one (head_line (r := r0) rfl (by unfold isLog; rw [show (hdOf t d).take 4 = [115, 111, 117, 114] from rfl]; decide) hh hc)
  | succ k ih =>
    intro hk
    obtain ⟨r, hr⟩ : ∃ r, l[k]? = some r := ⟨_, List.getElem?_eq_getElem (by omega)⟩
    have hm := List.mem_of_getElem? hr
    have htk : l.take (k + 1) = l.take k ++ [r] := by rw [List.take_add_one, hr]; rfl
    have hls : lnsOf (l.take (k + 1)) t d = lnsOf (l.take k) t d ++ [lnOf r] := by rw [htk]; unfold lnsOf; rw [List.map_append]; rfl
    have hc : cfgO (lnsOf (l.take k) t d ++ [lnOf r]) = some (l.take (k + 1), t, d) := by
      rw [← hls]
      exact cfgO_lns (fun x hx => h x (List.mem_of_mem_take hx)) (fun x hx => ho x (List.mem_of_mem_take hx)) ht hd
    rw [hls]
    refine lines_app (ih (by omega)) ?_
    rw [lines_one (head_line (r := ⟨lnsOf (l.take k) t d, (l.take k, t, d), [], [], 0⟩) rfl (lnOf_noLog (ho r hm)) (line_noRead (lnOf_line (h r hm) (ho r hm))) hc)]
theorem logs_back (hd : List (List UInt8)) (hne : hd ≠ []) (c : List Rl × Int × Int) : ∀ (l pre : List (List UInt8)) (p : Nat), p < 2 → linesR ⟨hd, c, pre, [], p⟩ (l.map logL) = .inl ⟨hd, c, pre ++ l, [], if l = [] then p else 1⟩
  | [], pre, p, hp => by simp [linesR]
  | x :: l, pre, p, hp => by
    have hdr : (logL x).drop 4 = quoteP ⟨x.toArray⟩ := rfl
    have hl : lineR ⟨hd, c, pre, [], p⟩ (logL x) = (⟨hd, c, pre ++ [x], [], 1⟩, true) := by
      unfold lineR
      rw [if_pos ⟨by rfl, hp, hne⟩, hdr, unqP_quote]
      rfl
    have ih := logs_back hd hne c l (pre ++ [x]) 1 (by decide)
    rw [List.map_cons]
    have h2 := lines_app (lines_one hl) ih
    rw [List.cons_append, List.nil_append] at h2
    rw [h2]
    simp
theorem chs_back (hd : List (List UInt8)) (hne : hd ≠ []) (c : List Rl × Int × Int) (lg : List (List UInt8)) : ∀ (l pre : List (Bool × Int)) (p : Nat), (∀ x ∈ l, I64 x.2) → linesR ⟨hd, c, lg, pre, p⟩ (l.map fun x => lineL x.1 x.2) = .inl ⟨hd, c, lg, pre ++ l, if l = [] then p else 2⟩
  | [], pre, p, _ => by simp [linesR]
  | (b, n) :: l, pre, p, hI => by
    have hn := hI (b, n) (List.mem_cons_self ..)
    have hlg : isLog (lineL b n) = false := by
      unfold isLog lineL
      rw [decide_eq_false_iff_not]
      cases b
      · rw [show ((if false = true then tickL else pollL) ++ 32 :: Lib.itoa n).take 4 = pollL from rfl]; decide
      · rw [show ((if true = true then tickL else pollL) ++ 32 :: Lib.itoa n).take 4 = tickL from rfl]; decide
    have hl : lineR ⟨hd, c, lg, pre, p⟩ (lineL b n) = (⟨hd, c, lg, pre ++ [(b, n)], 2⟩, true) := by
      unfold lineR
      rw [if_neg (fun h => by rw [hlg] at h; cases h.1), readP_line b hn]
      simp only
      rw [if_pos hne]
    have ih := chs_back hd hne c lg l (pre ++ [(b, n)]) 2 (fun x hx => hI x (List.mem_cons_of_mem _ hx))
    rw [List.map_cons]
    have h2 := lines_app (lines_one hl) ih
    rw [List.cons_append, List.nil_append] at h2
    rw [h2]
    simp
/-- a script that can be told, in lines, is read as it -/
theorem script_back {l : List Rl} {t d : Int} (h : ∀ r ∈ l, rlI r) (ho : ∀ r ∈ l, rlO r = true) (ht : I64 t) (hd : I64 d) (lg : List (List UInt8)) (ch : List (Bool × Int)) (hI : ∀ x ∈ ch, I64 x.2) :
    ∃ p, linesR r0 (lnsOf l t d ++ lg.map logL ++ ch.map fun x => lineL x.1 x.2) = .inl ⟨lnsOf l t d, (l, t, d), lg, ch, p⟩ := by
  have h1 := heads h ho ht hd l.length (Nat.le_refl _)
  rw [List.take_length] at h1
  have hne : lnsOf l t d ≠ [] := by simp [lnsOf]
  have h2 := logs_back _ hne (l, t, d) lg [] 0 (by decide)
  have h3 := lines_app h1 h2
  rw [List.nil_append] at h3
  have h4 := chs_back _ hne (l, t, d) lg ch [] (if lg = [] then 0 else 1) hI
  have h5 := lines_app h3 h4
  rw [List.nil_append] at h5
  exact ⟨_, h5⟩
end Go.Proofs.YtockkjhciojgbaaGreatDoor
/- ScriptPureB -/
/- What any text is read as, as a script: the plain law. No program. -/
namespace Go.Proofs.YtockkjhciojgbaaGreatDoor
set_option maxRecDepth 100000
set_option linter.unusedSimpArgs false
open Go.RowKit
set_option linter.unusedVariables false
set_option linter.unusedSimpArgs false

/-- each line, and a line feed -/
def unl (l : List (List UInt8)) : List UInt8 := l.flatMap fun x => x ++ [10]
/-- the script of a text; or the first line that doesn't belong there, from 1 on -/
def parseT (s : List UInt8) : RSt ⊕ Nat :=
  match linesR r0 (spl 10 s).dropLast with
  | .inr k => .inr (k + 1)
  | .inl r => if (spl 10 s).getLast? ≠ some [] ∨ r.head = [] then .inr (spl 10 s).length else .inl r
theorem unl_join : ∀ (A : List (List UInt8)) (h : List UInt8) (t : List (List UInt8)), A ++ [[]] = h :: t → h ++ joinC 10 t = unl A
  | [], h, t, e => by
    simp at e
    obtain ⟨rfl, rfl⟩ := e
    rfl
  | x :: A, h, t, e => by
    simp at e
    obtain ⟨rfl, rfl⟩ := e
    cases hA : A ++ [[]] with
    | nil => simp at hA
    | cons h2 t2 =>
      have ih := unl_join A h2 t2 hA
      show x ++ joinC 10 (h2 :: t2) = (x ++ [10]) ++ unl A
      rw [← ih]
      unfold joinC
      rw [List.flatMap_cons]
      simp
theorem spl_unl {l : List (List UInt8)} (h : ∀ x ∈ l, (10 : UInt8) ∉ x) : spl 10 (unl l) = l ++ [[]] := spl_lns h
theorem spl_last (s : List UInt8) : ∃ A z, spl 10 s = A ++ [z] := ⟨_, _, (List.dropLast_concat_getLast (spl_ne 10 s)).symm⟩
theorem parseT_good {s : List UInt8} {r : RSt} (h : parseT s = .inl r) : r.ok ∧ cfgO r.head = some r.cfg ∧ unl r.lines = s := by
  obtain ⟨A, z, hA⟩ := spl_last s
  unfold parseT at h
  rw [hA, List.dropLast_concat] at h
  split at h
  · cases h
  · rename_i x hx
    split at h
    · cases h
    · rename_i hc
      have hxr : x = r := by simpa using h
      subst hxr
      rw [not_or] at hc
      have hz : z = [] := by
        have h1 := Classical.not_not.1 hc.1
        simpa using h1
      subst hz
      obtain ⟨h1, h2, h3⟩ := lines_ok r0_ok hx
      have h2' : x.lines = A := by rw [h2]; rfl
      refine ⟨h1, ?_, ?_⟩
      · rcases h1.1 with e | e
        · exact absurd e.1 hc.2
        · exact e
      · rw [h2']
        cases hs : spl 10 s with
        | nil => exact absurd hs (spl_ne 10 s)
        | cons a t =>
          rw [spl_join hs]
          exact (unl_join A a t (by rw [← hA, hs])).symm
theorem parseT_unl {l : List (List UInt8)} {r : RSt} (hl : ∀ x ∈ l, (10 : UInt8) ∉ x) (hr : linesR r0 l = .inl r) (hne : r.head ≠ []) : parseT (unl l) = .inl r := by
  unfold parseT
  rw [spl_unl hl, List.dropLast_concat, hr]
  simp only
  rw [if_neg]
  rw [not_or]
  exact ⟨by simp, hne⟩
theorem parseT_unlBad {l : List (List UInt8)} {k : Nat} (hl : ∀ x ∈ l, (10 : UInt8) ∉ x) (hr : linesR r0 l = .inr k) : parseT (unl l) = .inr (k + 1) := by
  unfold parseT
  rw [spl_unl hl, List.dropLast_concat, hr]
theorem parseT_bad {s : List UInt8} {k : Nat} (h : parseT s = .inr k) :
    1 ≤ k ∧ k ≤ (spl 10 s).length ∧ (k ≠ 1 → ∃ r, parseT (unl ((spl 10 s).take (k - 1))) = .inl r) ∧ (k = (spl 10 s).length ∨ parseT (unl ((spl 10 s).take k)) = .inr k) := by
  obtain ⟨A, z, hA⟩ := spl_last s
  have hno : ∀ x ∈ A, (10 : UInt8) ∉ x := fun x hx => spl_no_mem x (by rw [hA]; exact List.mem_append_left _ hx)
  unfold parseT at h
  rw [hA, List.dropLast_concat] at h
  rw [hA, List.length_append, List.length_singleton]
  split at h
  · rename_i j hj
    have hk : j + 1 = k := by simpa using h
    subst hk
    obtain ⟨g1, ⟨x, g2⟩, g3⟩ := lines_bad hj
    have t1 : (A ++ [z]).take (j + 1 - 1) = A.take j := by rw [Nat.add_sub_cancel, List.take_append_of_le_length (by omega)]
    have t2 : (A ++ [z]).take (j + 1) = A.take (j + 1) := List.take_append_of_le_length (by omega)
    refine ⟨by omega, by omega, fun hne => ⟨x, ?_⟩, .inr ?_⟩
    · rw [t1]
      refine parseT_unl (fun y hy => hno y (List.mem_of_mem_take hy)) g2 ((lines_ok r0_ok g2).2.2 ?_)
      intro e
      have := congrArg List.length e
      rw [List.length_take, List.length_nil] at this
      omega
    · rw [t2]
      have h4 := g3 []
      rw [List.append_nil] at h4
      exact parseT_unlBad (fun y hy => hno y (List.mem_of_mem_take hy)) h4
  · rename_i x hx
    split at h
    · have hk : (A ++ [z]).length = k := by simpa using h
      rw [List.length_append, List.length_singleton] at hk
      subst hk
      have t1 : (A ++ [z]).take (A.length + 1 - 1) = A := by rw [Nat.add_sub_cancel, List.take_append_of_le_length (Nat.le_refl _), List.take_length]
      refine ⟨by omega, by omega, fun hne => ⟨x, ?_⟩, .inl rfl⟩
      rw [t1]
      refine parseT_unl hno hx ((lines_ok r0_ok hx).2.2 ?_)
      intro e
      rw [e] at hne
      exact hne rfl
    · cases h
/-- a script that can be told, in words, is read as it -/
theorem parseT_back {l : List Rl} {t d : Int} (h : ∀ r ∈ l, rlI r) (ho : ∀ r ∈ l, rlO r = true) (ht : I64 t) (hd : I64 d) (lg : List (List UInt8)) (ch : List (Bool × Int)) (hI : ∀ x ∈ ch, I64 x.2)
    (hno : ∀ x ∈ lnsOf l t d ++ lg.map logL ++ ch.map (fun x => lineL x.1 x.2), (10 : UInt8) ∉ x) :
    ∃ p, parseT (unl (lnsOf l t d ++ lg.map logL ++ ch.map fun x => lineL x.1 x.2)) = .inl ⟨lnsOf l t d, (l, t, d), lg, ch, p⟩ := by
  obtain ⟨p, hp⟩ := script_back h ho ht hd lg ch hI
  exact ⟨p, parseT_unl hno hp (by simp [lnsOf])⟩
theorem log_no10 (x : List UInt8) : (10 : UInt8) ∉ logL x := by
  intro h
  unfold logL at h
  rcases List.mem_append.1 h with h | h
  · exact absurd h (by decide)
  · have := (quoteP_plain _ _ h).1
    exact absurd this (by decide)
theorem choice_no10 (b : Bool) (n : Int) : (10 : UInt8) ∉ lineL b n := by
  intro h
  unfold lineL at h
  rcases List.mem_append.1 h with h | h
  · cases b
    · exact absurd h (by decide)
    · exact absurd h (by decide)
  · rcases List.mem_cons.1 h with h | h
    · exact absurd h (by decide)
    · exact itoa_no n 10 (by decide) h
/-! ### a script, in words -/
/-- a script in words -/
def scriptL (l : List Rl) (t d : Int) (lg : List (List UInt8)) (ch : List (Bool × Int)) : List UInt8 :=
  cfgL l t d ++ (lg.flatMap fun x => logL x ++ [10]) ++ ch.flatMap fun c => lineL c.1 c.2 ++ [10]
theorem unl_app (a b : List (List UInt8)) : unl (a ++ b) = unl a ++ unl b := by unfold unl; rw [List.flatMap_append]
theorem scriptL_unl {l : List Rl} {t d : Int} (h : ∀ r ∈ l, rlI r) (ho : ∀ r ∈ l, rlO r = true) (lg : List (List UInt8)) (ch : List (Bool × Int)) :
    scriptL l t d lg ch = unl (lnsOf l t d ++ lg.map logL ++ ch.map fun x => lineL x.1 x.2) := by
  unfold scriptL
  rw [unl_app, unl_app, cfgL_lns h ho]
  unfold unl
  rw [List.flatMap_map, List.flatMap_map]
/-- whatever text is read as a script is that script in words, and it can be told -/
theorem parseT_told {s : List UInt8} {r : RSt} (h : parseT s = .inl r) :
    ∃ l t d, r.cfg = (l, t, d) ∧ (∀ x ∈ l, rlI x) ∧ (∀ x ∈ l, rlO x = true) ∧ I64 t ∧ I64 d ∧ (∀ c ∈ r.chs, I64 c.2) ∧ scriptL l t d r.logs r.chs = s := by
  obtain ⟨h1, h2, h3⟩ := parseT_good h
  obtain ⟨l, t, d, hc⟩ : ∃ l t d, r.cfg = (l, t, d) := ⟨_, _, _, rfl⟩
  rw [hc] at h2
  obtain ⟨g1, g2, g3, g4⟩ := cfgO_some h2
  refine ⟨l, t, d, hc, fun x hx => (g2 x hx).1, fun x hx => (g2 x hx).2, g3, g4, h1.2.2.2.2, ?_⟩
  rw [scriptL_unl (fun x hx => (g2 x hx).1) (fun x hx => (g2 x hx).2), ← h3]
  unfold RSt.lines
  rw [g1]
/-- a script that can be told, in words, is read as it -/
theorem script_read {l : List Rl} {t d : Int} (h : ∀ r ∈ l, rlI r) (ho : ∀ r ∈ l, rlO r = true) (ht : I64 t) (hd : I64 d) (lg : List (List UInt8)) (ch : List (Bool × Int)) (hI : ∀ x ∈ ch, I64 x.2) :
    ∃ p, parseT (scriptL l t d lg ch) = .inl ⟨lnsOf l t d, (l, t, d), lg, ch, p⟩ := by
  rw [scriptL_unl h ho]
  refine parseT_back h ho ht hd lg ch hI ?_
  intro x hx
  rcases List.mem_append.1 hx with hx | hx
  · rcases List.mem_append.1 hx with hx | hx
    · exact lnsOf_no h ho x hx
    · obtain ⟨y, _, rfl⟩ := List.mem_map.1 hx
      exact log_no10 y
  · obtain ⟨y, _, rfl⟩ := List.mem_map.1 hx
    exact choice_no10 _ _
end Go.Proofs.YtockkjhciojgbaaGreatDoor
