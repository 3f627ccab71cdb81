
/- Configurations read from lines (config.Parse), walked. No condition but the tables and variables of Go's own library. -/
import Derived.Test.YthdblloiapadkaaDoorConfigD
import Derived.Test.YthdblloiapadkaaDoorConfigE
namespace Go.Proofs.YthdblloiapadkaaDoor
set_option maxRecDepth 100000
set_option linter.unusedSimpArgs false
open Go.RowKit
set_option linter.unusedVariables false
set_option linter.unusedSimpArgs false

def rvP (x : ByteArray) : Rl := (ruleP (bL x)).getD (0, 0, 0, 0, 0)
def rokP (x : ByteArray) : Bool := (ruleP (bL x)).isSome
def rlRows (l : List ByteArray) : List Value := l.flatMap fun x => fRl (rvP x)
theorem rlRows_take {l : List ByteArray} {k : Nat} {x : ByteArray} (h : l[k]? = some x) : rlRows (l.take (k + 1)) = rlRows (l.take k) ++ fRl (rvP x) := by
  unfold rlRows; rw [List.take_add_one, h]; simp
theorem fRl_one (r : Rl) : ∀ u ∈ fRl r, u.oneCell' = true := by
  intro u hu
  unfold fRl at hu
  simp at hu
  rcases hu with h | h | h | h | h <;> rw [h] <;> rfl
def badIdx : List ByteArray → Option Nat
  | [] => none
  | x :: l => if rokP x = true then (badIdx l).map (· + 1) else some 0
theorem badIdx_at : ∀ {l : List ByteArray} {k : Nat} {x : ByteArray}, (∀ j y, j < k → l[j]? = some y → rokP y = true) → l[k]? = some x → rokP x = false → badIdx l = some k
  | [], k, x, _, h, _ => by simp at h
  | y :: l, 0, x, _, h, hx => by
    simp at h; subst h
    unfold badIdx; rw [if_neg (by rw [hx]; decide)]
  | y :: l, k + 1, x, h0, h, hx => by
    unfold badIdx
    rw [if_pos (h0 0 y (by omega) rfl), badIdx_at (l := l) (k := k) (fun j z hj hz => h0 (j + 1) z (by omega) (by simpa using hz)) (by simpa using h) hx]
    rfl
theorem badIdx_none : ∀ {l : List ByteArray}, (∀ j y, j < l.length → l[j]? = some y → rokP y = true) → badIdx l = none
  | [], _ => rfl
  | y :: l, h => by
    unfold badIdx
    rw [if_pos (h 0 y (by simp) rfl), badIdx_none (l := l) (fun j z hj hz => h (j + 1) z (by simp; omega) (by simpa using hz))]
    rfl
/-- which line is none; 0: all are -/
def parseBad : List ByteArray → Nat
  | [] => 1
  | x :: l => match headP (bL x) with | none => 1 | some _ => match badIdx l with | some k => k + 2 | none => 0
def PPost (w : World) (xs : List ByteArray) (e : Ending) (w' : World) : Prop :=
  ((parseBad xs ≠ 0 ∧ e = .returned (.tuple #[.agg #[.slice none 0 0, .int .i64 0, .int .i64 0], .int .i64 (parseBad xs : Int)])) ∨
   (parseBad xs = 0 ∧ ∃ x l a b v, xs = x :: l ∧ headP (bL x) = some (a, b) ∧ e = .returned (.tuple #[.agg #[v, .int .i64 a, .int .i64 b], .int .i64 0]) ∧ w'.ownsRow w.heap.size 54 5 v l.length (rlRows l) ∧ ∀ y ∈ l, rokP y = true)) ∧ Below w.heap.size w w'
set_option maxHeartbeats 16000000 in
theorem config_Parse (A : Option Addr) (c : Nat) (xs : List ByteArray) (w : World) (hr : Rd w A (xs.map .string)) (hl : xs.length ≤ 1000) (hlc : xs.length ≤ c) (hz : ∀ x ∈ xs, x.size ≤ 10000) (hP : PowT w) (hE : ErV w) (hM : MaxT w) :
    Calls Tryd.prog 36 #[.slice A xs.length c] w (PPost w xs) := by
  have HP := hid' hP
  have HE := hid' hE
  have HM := hid' hM
  have HL0 := hid' (bel_alloc (bel_refl w) (.cells #[.slice none 0 0, .int .i64 0, .int .i64 0] 45))
  have HK0 := hid' (Blk.new_ w 45 #[.slice none 0 0, .int .i64 0, .int .i64 0])
  cases xs with
  | nil =>
    go_enter Tryd.func36, Tryd.ntmps36
    have f0 := HK0.out.frozen 0
    have f1 := HK0.out.frozen 1
    have f2 := HK0.out.frozen 2
    go_wp2
    refine bodyPost_ret (v := .tuple #[.agg #[.slice none 0 0, .int .i64 0, .int .i64 0], .int .i64 1]) ?_ rfl ?_
    · rw [results_cell_tmp rfl]; first | done | go_simp
    · exact ⟨.inl ⟨by decide, rfl⟩, HL0.out⟩
  | cons x l =>
    have hxz := hz x (List.mem_cons_self ..)
    have hlz : ∀ y ∈ l, y.size ≤ 10000 := fun y hy => hz y (List.mem_cons_of_mem _ hy)
    have hll : l.length ≤ 1000 := by simp at hl; omega
    have hl0 : (0 : Int) < ((x :: l).length : Int) := by rw [List.length_cons]; omega
    have hlne : (((x :: l).length : Int) == 0) = false := by rw [beq_eq_false_iff_ne, List.length_cons]; omega
    obtain ⟨ad, hA, hx0⟩ := hr 0 (.string x) rfl
    subst hA
    obtain ⟨H, T, hsp, hcall⟩ := splitW 32 x ⟨#[32]⟩ (w.alloc (.cells #[.slice none 0 0, .int .i64 0, .int .i64 0] 45)) rfl (by omega) (hM.below (bel_alloc (bel_refl w) _))
    have HC := hid' hcall
    have hTl : T.length ≤ 10000 := by
      have h1 := spl_len 32 (bL x)
      rw [← hsp, bL_len] at h1
      simp at h1; omega
    have hTz : ∀ y ∈ T, y.size ≤ 200000 := by
      intro y hy
      have := spl_mem_len (c := 32) (l := bL x) (bL y) (by rw [← hsp]; exact List.mem_cons_of_mem _ (List.mem_map_of_mem hy))
      rw [bL_len, bL_len] at this
      omega
    have hro : headP (bL x) = if numsOk T = true then (if bL H = wSource ∧ T.length = 2 then some (((T.map bL).map wV).getD 0 0, ((T.map bL).map wV).getD 1 0) else none) else none := by
      unfold headP
      rw [← hsp, numsOk_w]
      simp only [List.length_map]
    have HTZ := hid' hTz
    have HLZ := hid' hlz
    have HR := hid' hr
    have hc0 : (w.alloc (.cells #[.slice none 0 0, .int .i64 0, .int .i64 0] 45)).cell? ad = some (.string x) := by
      obtain ⟨ad', hA', h'⟩ := (hr.below (bel_alloc (bel_refl w) (.cells #[.slice none 0 0, .int .i64 0, .int .i64 0] 45))) 0 (.string x) rfl
      injection hA' with hA'
      subst hA'
      exact h'
    have hcutl := cut_l (P := Tryd.prog) 50 9 1 Tryd.underlying50 (by kernel_rfl) (some ad) (x :: l).length c 1 (by simp)
    change ∀ W : World, (Instr.slice 50 (.slice (some ad) (x :: l).length c) (some (.int .i64 1)) none none).run Tryd.prog W = .ok (.slice (cutA (some ad) 1 1 c) l.length (c - 1)) W at hcutl
    have hrl : Rd w (cutA (some ad) 1 1 c) (l.map .string) := by
      have h2 := hr.cut 1 1 c l.length (by simp at hlc; omega)
      have h3 : (((x :: l).map Value.string).drop (1 * 1)).take l.length = l.map Value.string := by
        show (l.map Value.string).take l.length = _
        exact List.take_of_length_le (by simp)
      rwa [h3] at h2
    have HRL := hid' hrl
    have HCL := hid' hcutl
    generalize hN : (x :: l).length = N at *
    clear hr hcall hsp hTz hlz hx0 hcutl hrl hP hE hM hN hl hlc hz
    go_enter Tryd.func36, Tryd.ntmps36
    go_wp2_with fail
    generalize hw0 : w.alloc (.cells #[.slice none 0 0, .int .i64 0, .int .i64 0] 45) = w0 at *
    refine HC.out.mono ?_
    rintro e w1 ⟨rfl, rfl⟩
    have HR1 := hid' ((Blk.new_ w0 9 ((H :: T).map Value.string).toArray).rd rfl)
    have hba := bel_alloc (bel_refl w0) (.cells ((H :: T).map Value.string).toArray 9)
    have HL1 := hid' (bel_then HL0.out hba)
    have HK1 := hid' (HK0.out.below hba)
    have hcut := cut_l (P := Tryd.prog) 50 9 1 Tryd.underlying50 (by kernel_rfl) (some ⟨w0.heap.size, 0, none⟩) (T.length + 1) (T.length + 1) 1 (by omega)
    have HRT := hid' (show ∀ W, Rd W (some ⟨w0.heap.size, 0, none⟩) ((H :: T).map Value.string) → Rd W (cutA (some ⟨w0.heap.size, 0, none⟩) 1 1 (T.length + 1)) (T.map Value.string) from by
      intro W h
      have h2 := h.cut 1 1 (T.length + 1) T.length (by omega)
      have h3 : (((H :: T).map Value.string).drop (1 * 1)).take T.length = T.map Value.string := by
        show (T.map Value.string).take T.length = _
        exact List.take_of_length_le (by simp)
      rwa [h3] at h2)
    generalize hA : cutA (some ⟨w0.heap.size, 0, none⟩) 1 1 (T.length + 1) = A1 at *
    rw [Nat.add_sub_cancel] at hcut
    change ∀ W : World, (Instr.slice 50 (.slice (some ⟨w0.heap.size, 0, none⟩) (T.length + 1) (T.length + 1)) (some (.int .i64 1)) none none).run Tryd.prog W = .ok (.slice A1 T.length T.length) W at hcut
    generalize hW1 : w0.alloc (.cells ((H :: T).map Value.string).toArray 9) = w1 at *
    clear hba hA hW1 HL0 HK0 HC hc0
    go_wp2_with fail
    have hNU := config_Numbers A1 T.length T w1 (HRT.out _ HR1.out) (by omega) HTZ.out (HP.out.below HL1.out) (HE.out.below HL1.out)
    refine hNU.mono ?_
    rintro e w2 ⟨hcase, hB2⟩
    have HL2 := hid' (bel_then HL1.out hB2)
    have HK2 := hid' (HK1.out.below hB2)
    have HR2 := hid' (HR1.out.below hB2)
    have c0 : w2.cell? ⟨w.heap.size, 0, none⟩ = some (.slice none 0 0) := by simpa using HK2.out.cell 0
    have c1 : w2.cell? ⟨w.heap.size, 1, none⟩ = some (.int .i64 0) := by simpa using HK2.out.cell 1
    have c2 : w2.cell? ⟨w.heap.size, 2, none⟩ = some (.int .i64 0) := by simpa using HK2.out.cell 2
    have f0 := HK2.out.frozen 0
    have f1 := HK2.out.frozen 1
    have f2 := HK2.out.frozen 2
    have hsh := HK2.out.shape
    obtain ⟨ad0, hA0, hH⟩ := HR2.out 0 _ rfl
    injection hA0 with hA0
    subst hA0
    change w2.cell? ⟨w0.heap.size, 0, none⟩ = some (.string H) at hH
    have hT0 : (0 : Int) < (T.length : Int) + 1 := by omega
    clear hB2 hNU hcut hw0 hTl HTZ HRT HR1 HL1 HK1 HR2
    have HPB := hid' (show headP (bL x) = none → parseBad (x :: l) = 1 from fun h => by show (match headP (bL x) with | none => 1 | some _ => match badIdx l with | some k => k + 2 | none => 0) = 1; rw [h])
    rcases hcase with ⟨hk, v, rfl, hown⟩ | ⟨hk, rfl⟩
    · rw [hk, if_pos rfl] at hro
      rw [numsV_w] at hown
      obtain ⟨A, c5, rfl, hc1, hc2, hrd⟩ := own_rd hown
      have hnl : ((T.map bL).map wV).length = T.length := by simp
      generalize (T.map bL).map wV = nums at *
      clear hk hown hc1 hc2
      by_cases hw1 : H = strOf wSource
      · have hm1 : H.toList = [115, 111, 117, 114, 99, 101] := by rw [hw1]; exact ByteArray.toList_eq _
        have hb : bL H = wSource := by rw [hw1]; rfl
        rw [hb] at hro
        by_cases hl2 : T.length = 2
        · obtain ⟨a, b, rfl⟩ := len2 (hnl.trans hl2)
          have hro2 : headP (bL x) = some (a, b) := by rw [hro, if_pos ⟨rfl, hl2⟩]; rfl
          have HHP := hid' hro2
          obtain ⟨ad5, rfl, hcell⟩ := hrd 0 _ rfl
          change w2.cell? ad5 = some (.int .i64 a) at hcell
          obtain ⟨ad', hA', hcell'⟩ := hrd 1 _ rfl
          injection hA' with hA'
          subst hA'
          change w2.cell? ⟨ad5.block, ad5.off + 1, none⟩ = some (.int .i64 b) at hcell'
          have hl1i : ((T.length : Int) != 2) = false := by rw [hl2]; rfl
          have hl0' : (0 : Int) < (T.length : Int) := by omega
          have hl1' : (1 : Int) < (T.length : Int) := by omega
          clear hro hro2 hw1 hb hrd
          have hcutl := HCL.out
          have hbz := bel_alloc (bel_refl w2) (.cells #[.slice none 0 0, .int .i64 0, .int .i64 0] 45)
          have g0 : (w2.alloc (.cells #[.slice none 0 0, .int .i64 0, .int .i64 0] 45)).cell? ad5 = some (.int .i64 a) := (hbz.cell (World.block_lt_of_cell? w2 _ hcell)).trans hcell
          have g1 : (w2.alloc (.cells #[.slice none 0 0, .int .i64 0, .int .i64 0] 45)).cell? ⟨ad5.block, ad5.off + 1, none⟩ = some (.int .i64 b) := (hbz.cell (World.block_lt_of_cell? w2 _ hcell')).trans hcell'
          clear hbz
          go_wp2
          go_region
          clear hcell hcell' c0 c1 c2 f0 f1 f2 hsh hH hm1 hnl hl1i hl0' hl1' hT0 g0 g1
          go_wp2
          have hb2lt : w.heap.size < w2.heap.size := HK2.out.lt
          generalize hb7 : w2.heap.size = b7 at *
          go_loopw [8, 9, 10, 11, 50] (fun v8 v9 v10 v11 v50 wr => ∃ (k : Nat) (v : Value), k ≤ l.length ∧ v50 = .int .i64 k ∧ (∀ j y, j < k → l[j]? = some y → rokP y = true) ∧ Blk wr b7 45 #[v, .int .i64 a, .int .i64 b] ∧ wr.ownsRow (b7 + 1) 54 5 v k (rlRows (l.take k)) ∧ Blk wr w.heap.size 45 #[.slice none 0 0, .int .i64 0, .int .i64 0] ∧ Below w.heap.size w wr) (fun _ _ _ _ v50 _ => l.length - (intOf v50).toNat)
          case atStart =>
            refine ⟨0, .slice none 0 0, Nat.zero_le _, rfl, fun j y hj => by omega, ?_, World.ownsRow_nil _ _ _ _, ?_, ?_⟩
            · rw [← hb7]; exact (Blk.new_ w2 _ _).drew
            · exact (HK2.out.below (bel_alloc (bel_refl w2) _)).drew
            · exact bel_drew (bel_alloc HL2.out _)
          case round =>
            obtain ⟨k, v, hk, rfl, hok, hJ, hown, hKB, hL⟩ := hrel
            have HOK := hid' hok
            have HJ := hid' hJ
            have HOWN := hid' hown
            have HKB := hid' hKB
            have HL := hid' hL
            have hbr : b7 < wr.heap.size := hJ.lt
            by_cases hlt : k < l.length
            · have hlti : (k : Int) < (l.length : Int) := by omega
              obtain ⟨adr, y, hAr, hy, hcy⟩ := (HRL.out.below hL).at_ hlt
              rw [hAr]
              change wr.cell? (adr.add k) = some (.string y) at hcy
              have hyz := HLZ.out y (List.mem_of_getElem? hy)
              have HRU := hid' (config_rule y wr hyz (HP.out.below hL) (HE.out.below hL) (HM.out.below hL))
              have HY := hid' hy
              clear hok hJ hown hKB hL hy hcutl
              cases hoy : ruleP (bL y) with
              | none =>
                have hrk : rokP y = false := by unfold rokP; rw [hoy]; rfl
                have hbi := badIdx_at HOK.out HY.out hrk
                have HPB2 := hid' (show parseBad (x :: l) = k + 2 by
                  show (match headP (bL x) with | none => 1 | some _ => match badIdx l with | some k => k + 2 | none => 0) = k + 2
                  rw [HHP.out, hbi])
                rw [hoy, show rlRes none = .agg #[.int .i64 0, .int .i64 0, .int .i64 0, .int .i64 0, .int .i64 0] from rfl, show (none : Option Rl).isSome = false from rfl] at HRU
                clear hoy hrk hbi
                go_wp2_with fail
                refine HRU.out.mono ?_
                rintro e w3 ⟨rfl, hB3⟩
                have hba := bel_alloc hB3 (.cells #[.int .i64 0, .int .i64 0, .int .i64 0, .int .i64 0, .int .i64 0] 54)
                have HL3 := hid' (bel_then HL.out hba)
                have HK3 := hid' (HKB.out.below hba)
                have hb3 : w.heap.size ≠ w3.heap.size := by have := (HKB.out.below hB3).lt; omega
                have c0 : (w3.alloc (.cells #[.int .i64 0, .int .i64 0, .int .i64 0, .int .i64 0, .int .i64 0] 54)).cell? ⟨w.heap.size, 0, none⟩ = some (.slice none 0 0) := by simpa using HK3.out.cell 0
                have c1 : (w3.alloc (.cells #[.int .i64 0, .int .i64 0, .int .i64 0, .int .i64 0, .int .i64 0] 54)).cell? ⟨w.heap.size, 1, none⟩ = some (.int .i64 0) := by simpa using HK3.out.cell 1
                have c2 : (w3.alloc (.cells #[.int .i64 0, .int .i64 0, .int .i64 0, .int .i64 0, .int .i64 0] 54)).cell? ⟨w.heap.size, 2, none⟩ = some (.int .i64 0) := by simpa using HK3.out.cell 2
                have f0 := HK3.out.frozen 0
                have f1 := HK3.out.frozen 1
                have f2 := HK3.out.frozen 2
                have hsh := HK3.out.shape
                clear hB3 hba
                go_wp2
                refine bodyPost_ret (v := .tuple #[.agg #[.slice none 0 0, .int .i64 0, .int .i64 0], .int .i64 ((k : Int) + 2)]) ?_ rfl ?_
                · rw [results_cell_tmp rfl]; first | done | go_simp
                · refine ⟨.inl ⟨by rw [HPB2.out]; omega, by rw [HPB2.out]; rfl⟩, ?_⟩
                  repeat (first | exact HL3.out | refine bel_set ?_ (by exact Nat.le_refl _) _ | refine bel_alloc ?_ _)
              | some r =>
                have hrk : rokP y = true := by unfold rokP; rw [hoy]; rfl
                have hrv : rvP y = r := by unfold rvP; rw [hoy]; rfl
                have HRK := hid' hrk
                have HRV := hid' hrv
                obtain ⟨r0, r1, r2, r3, r4⟩ := r
                rw [hoy, show rlRes (some (r0, r1, r2, r3, r4)) = .agg #[.int .i64 r0, .int .i64 r1, .int .i64 r2, .int .i64 r3, .int .i64 r4] from rfl, show (some (r0, r1, r2, r3, r4)).isSome = true from rfl] at HRU
                clear hoy hrk hrv
                go_wp2_with fail
                refine HRU.out.mono ?_
                rintro e w3 ⟨rfl, hB3⟩
                have hba := bel_alloc hB3 (.cells #[.int .i64 r0, .int .i64 r1, .int .i64 r2, .int .i64 r3, .int .i64 r4] 54)
                have HL4 := hid' (bel_then HL.out hba)
                have HK4 := hid' (HKB.out.below hba)
                have HJ4 := hid' (HJ.out.below hba)
                have HO4 := hid' (own_below HOWN.out hba)
                have hb3 : b7 < w3.heap.size := (HJ.out.below hB3).lt
                have hsz4 : (w3.alloc (.cells #[.int .i64 r0, .int .i64 r1, .int .i64 r2, .int .i64 r3, .int .i64 r4] 54)).heap.size = w3.heap.size + 1 := by simp
                have c0 : (w3.alloc (.cells #[.int .i64 r0, .int .i64 r1, .int .i64 r2, .int .i64 r3, .int .i64 r4] 54)).cell? ⟨b7, 0, none⟩ = some v := by simpa using HJ4.out.cell 0
                have hbase : b7 + 1 ≤ (w3.alloc (.cells #[.int .i64 r0, .int .i64 r1, .int .i64 r2, .int .i64 r3, .int .i64 r4] 54)).heap.size := by omega
                have h8 : (k + 1) * 40 ≤ 140737488355328 := by omega
                have hone := hid' (fRl_one (r0, r1, r2, r3, r4))
                clear hB3 hba
                go_wp2_with (at_builtin; (refine ap_cells (b7 + 1) rfl (.tmp 66) (.tmp 68) 43 54 (.agg #[.int .i64 0, .int .i64 0, .int .i64 0, .int .i64 0, .int .i64 0]) 5 40 rfl (by kernel_rfl) (by kernel_rfl) rfl (by decide) (by decide) _ k (rlRows (l.take k)) [.int .i64 r0, .int .i64 r1, .int .i64 r2, .int .i64 r3, .int .i64 r4] rfl (by rw [hsz4]; rfl) rfl hone.out HO4.out hbase h8 ?_); intro v1 w5 hown5 hg5 hat5; obtain ⟨A9, c9, rfl⟩ := own_len0 hown5; have HJ5 := hid' (HJ4.out.mod (Mod.of_grown hg5) (fun e => by have := own_base' HO4.out _ e; omega)); have d0 : w5.cell? ⟨b7, 0, none⟩ = some v := (by simpa using HJ5.out.cell 0); have g0 := HJ5.out.frozen 0; have gsh := HJ5.out.shape)
                have hb2n : w.heap.size ≠ b7 := by omega
                refine ⟨⟨k + 1, .slice A9 (k + 1) c9, by omega, by go_num, fun j z hj hz => ?_, HJ5.out.set 0 (.slice A9 (k + 1) c9), ?_, ?_, ?_⟩, by simp only [intOf]; omega⟩
                · by_cases hjk : j = k
                  · subst hjk; rw [HY.out] at hz; rw [← Option.some.inj hz]; exact HRK.out
                  · exact HOK.out j z (by omega) hz
                · rw [rlRows_take HY.out, HRV.out]
                  exact own_set' hown5 (p := ⟨b7, 0, none⟩) (fun e => by have h9 := own_base' hown5 b7 e; omega) _
                · exact (HK4.out.mod (Mod.of_grown hg5) (fun e => by have h9 := own_base' HO4.out _ e; omega)).far hb2n _
                · exact bel_set (bel_mod HL4.out (Mod.of_grown hg5) (fun i hi e => by have h9 := own_base' HO4.out i e; omega)) (p := ⟨b7, 0, none⟩) (by show w.heap.size ≤ b7; omega) _
            · obtain rfl : k = l.length := by omega
              have hbi := badIdx_none hok
              have HPB2 := hid' (show parseBad (x :: l) = 0 by
                show (match headP (bL x) with | none => 1 | some _ => match badIdx l with | some k => k + 2 | none => 0) = 0
                rw [HHP.out, hbi])
              have HOKA := hid' (show ∀ y ∈ l, rokP y = true by
                intro y hy
                obtain ⟨j, hj, e⟩ := List.mem_iff_getElem.1 hy
                exact hok j y hj (by rw [List.getElem?_eq_getElem hj, e]))
              rw [List.take_length] at HOWN
              obtain ⟨A9, c9, rfl⟩ := own_len0 hown
              have d0 : wr.cell? ⟨b7, 0, none⟩ = some (.slice A9 l.length c9) := by simpa using hJ.cell 0
              have d1 : wr.cell? ⟨b7, 1, none⟩ = some (.int .i64 a) := by simpa using hJ.cell 1
              have d2 : wr.cell? ⟨b7, 2, none⟩ = some (.int .i64 b) := by simpa using hJ.cell 2
              have c0 : wr.cell? ⟨w.heap.size, 0, none⟩ = some (.slice none 0 0) := by simpa using hKB.cell 0
              have c1 : wr.cell? ⟨w.heap.size, 1, none⟩ = some (.int .i64 0) := by simpa using hKB.cell 1
              have c2 : wr.cell? ⟨w.heap.size, 2, none⟩ = some (.int .i64 0) := by simpa using hKB.cell 2
              have f0 := hKB.frozen 0
              have f1 := hKB.frozen 1
              have f2 := hKB.frozen 2
              have hsh := hKB.shape
              have hne : w.heap.size ≠ b7 := by omega
              clear hok hJ hown hKB hL hcutl hbi
              go_wp2
              refine bodyPost_ret (v := .tuple #[.agg #[.slice A9 l.length c9, .int .i64 a, .int .i64 b], .int .i64 0]) ?_ rfl ?_
              · rw [results_cell_tmp rfl]; first | done | go_simp
              · refine ⟨.inr ⟨HPB2.out, x, l, a, b, _, rfl, HHP.out, rfl, ?_, HOKA.out⟩, ?_⟩
                · have hnw : ∀ p : Addr, p.block = w.heap.size → (Value.slice A9 l.length c9).ownBlock ≠ some p.block := fun p hp e => by have := own_base' HOWN.out _ e; omega
                  refine own_set' (own_set' (own_set' (own_lower HOWN.out (by omega)) (p := ⟨w.heap.size, 0, none⟩) (hnw _ rfl) _) (p := ⟨w.heap.size, 1, none⟩) (hnw _ rfl) _) (p := ⟨w.heap.size, 2, none⟩) (hnw _ rfl) _
                · repeat (first | exact HL.out | refine bel_set ?_ (by exact Nat.le_refl _) _)
        · have hl1i : ((T.length : Int) != 2) = true := by rw [bne_iff_ne]; omega
          have hpb := HPB.out (by rw [hro, if_neg (fun h => hl2 h.2)])
          have HPB' := hid' hpb
          clear hro hw1 hb hrd hpb
          go_wp2
          refine bodyPost_ret (v := .tuple #[.agg #[.slice none 0 0, .int .i64 0, .int .i64 0], .int .i64 1]) ?_ rfl ?_
          · rw [results_cell_tmp rfl]; first | done | go_simp
          · refine ⟨.inl ⟨by rw [HPB'.out]; decide, by rw [HPB'.out]; rfl⟩, ?_⟩
            repeat (first | exact HL2.out | refine bel_set ?_ (by exact Nat.le_refl _) _)
      · have hn1 : (H.toList == [115, 111, 117, 114, 99, 101]) = false := by have h := strNe (b := strOf wSource) hw1; rwa [show (strOf wSource).toList = [115, 111, 117, 114, 99, 101] from ByteArray.toList_eq _] at h
        have hb1 : bL H ≠ wSource := fun h => hw1 (bL_inj (by rw [bL_str]; exact h))
        have hpb := HPB.out (by rw [hro, if_neg (fun h => hb1 h.1)])
        have HPB' := hid' hpb
        clear hro hw1 hb1 hrd hpb
        go_wp2
        refine bodyPost_ret (v := .tuple #[.agg #[.slice none 0 0, .int .i64 0, .int .i64 0], .int .i64 1]) ?_ rfl ?_
        · rw [results_cell_tmp rfl]; first | done | go_simp
        · refine ⟨.inl ⟨by rw [HPB'.out]; decide, by rw [HPB'.out]; rfl⟩, ?_⟩
          repeat (first | exact HL2.out | refine bel_set ?_ (by exact Nat.le_refl _) _)
    · have hpb := HPB.out (by rw [hro, hk]; rfl)
      have HPB' := hid' hpb
      clear hro hk hpb
      cases hq : (H.toList == [115, 111, 117, 114, 99, 101]) with
      | true =>
        have hq2 : H.toList = [115, 111, 117, 114, 99, 101] := by simpa using hq
        clear hq
        go_wp2
        refine bodyPost_ret (v := .tuple #[.agg #[.slice none 0 0, .int .i64 0, .int .i64 0], .int .i64 1]) ?_ rfl ?_
        · rw [results_cell_tmp rfl]; first | done | go_simp
        · refine ⟨.inl ⟨by rw [HPB'.out]; decide, by rw [HPB'.out]; rfl⟩, ?_⟩
          repeat (first | exact HL2.out | refine bel_set ?_ (by exact Nat.le_refl _) _)
      | false =>
        go_wp2
        refine bodyPost_ret (v := .tuple #[.agg #[.slice none 0 0, .int .i64 0, .int .i64 0], .int .i64 1]) ?_ rfl ?_
        · rw [results_cell_tmp rfl]; first | done | go_simp
        · refine ⟨.inl ⟨by rw [HPB'.out]; decide, by rw [HPB'.out]; rfl⟩, ?_⟩
          repeat (first | exact HL2.out | refine bel_set ?_ (by exact Nat.le_refl _) _)
end Go.Proofs.YthdblloiapadkaaDoor
