
/- Whatever is added to numbers and removed from them, walked. No condition. -/
import Derived.Test.YtcgonoepndlofaaLawHist
namespace Go.Proofs.Ytcgonoepndlofaa
set_option maxRecDepth 100000
set_option linter.unusedSimpArgs false
open Go.RowKit
set_option linter.unusedVariables false

def RAct08 (w : World) (cs : List Value) (x : Bool × Int) : Prop := cs.length = 2 ∧ RBool w ((cs.drop 0).take 1) x.1 ∧ RInt .i64 w ((cs.drop 1).take 1) x.2
theorem RAct08.cells {w : World} {cs : List Value} {x : Bool × Int} (h : RAct08 w cs x) : cs = [.bool x.1, .int .i64 x.2] ∧ I64 x.2 := by
  obtain ⟨hl, h1, ⟨h2, w2⟩⟩ := h
  match cs, hl with
  | [a, b], _ =>
    simp [RBool] at h1 h2
    subst h1 h2
    exact ⟨rfl, I64.of_wf w2⟩
def fAct08 (x : Bool × Int) : List Value := [.bool x.1, .int .i64 x.2]
theorem rk_least {bs : List (Int × Nat)} {l : List Int} (h : HistOf bs l) (k : Int) (hk : 1 ≤ k) : rkR bs k = lstOf (leastP l k) l := by
  unfold rkR
  rw [if_neg (by omega)]
  refine rank_least h (by omega) _ (fun x _ => ?_)
  unfold leastP
  exact decide_eq_decide.2 (by omega)
theorem pc_least {bs : List (Int × Nat)} {l : List Int} (h : HistOf bs l) (p : Int) (hp0 : 0 ≤ p) : pcR bs p (totB bs : Nat) = lstOf (percP l p) l := by
  unfold pcR rkR
  rw [if_neg (by omega), h.tot]
  have hq : 0 ≤ p * (l.length : Int) := Int.mul_nonneg hp0 (by omega)
  refine rank_least h (by omega) _ (fun x hx => ?_)
  unfold percP
  have h1 : 1 ≤ belowL l x := List.countP_pos_iff.2 ⟨x, hx, by simp⟩
  exact decide_eq_decide.2 (by omega)
theorem lst_none {l : List Int} {k : Int} (h : (l.length : Int) < k) : lstOf (leastP l k) l = (0, false) := by
  obtain ⟨s1, s2⟩ := lst_spec (leastP l k) l
  cases hb : (lstOf (leastP l k) l).2
  · exact (s1 hb).1
  · exfalso
    have := (s2 hb).2.1
    have h2 := belowL_le l (lstOf (leastP l k) l).1
    rw [show leastP l k (lstOf (leastP l k) l).1 = decide (k ≤ (belowL l (lstOf (leastP l k) l).1 : Int)) from rfl, decide_eq_true_eq] at this
    omega
theorem lst_is {bs : List (Int × Nat)} {l : List Int} (h : HistOf bs l) (k : Int) : (rkR bs k).2 = decide (1 ≤ k ∧ k ≤ (l.length : Int)) := by
  by_cases h1 : k < 1
  · unfold rkR; rw [if_pos h1, decide_eq_false (by omega)]
  · unfold rkR
    rw [if_neg h1]
    cases hr : rankB bs k.toNat with
    | none =>
      have := rank_none hr (by omega)
      rw [h.tot] at this
      rw [decide_eq_false (by omega)]; rfl
    | some m =>
      obtain ⟨_, h2, _⟩ := rank_some h.1 (by omega) hr
      rw [h.below] at h2
      have h3 := belowL_le l m
      rw [decide_eq_true (by omega)]; rfl
set_option maxHeartbeats 4000000 in
theorem histDoes (A : Option Addr) (c : Nat) (l : List (Bool × Int)) (k0 : Int) (w : World)
    (hr : ∀ j x, l[j]? = some x → ∃ ad row, A = some ad ∧ RAct08 w row x ∧ row.length = 2 ∧ ∀ i u, row[i]? = some u → w.cell? ((ad.add (j * 2)).add i) = some u) (hn : l.length ≤ maxLen) (hk0 : (Lit.int .i64 k0).wf = true) :
    Calls Try.prog 4 #[.slice A l.length c, .int .i64 k0] w fun e w' => e = .returned (.bool true) ∧ Below w.heap.size w w' := by
  have hn' : l.length ≤ 9223372036854775807 := hn
  have hkI := I64.of_wf hk0
  have HR := hid' (show RdS w A 2 fAct08 l from fun j x hj => by
    obtain ⟨ad, row, e, ha, hl, hc⟩ := hr j x hj
    obtain ⟨rfl, _⟩ := ha.cells
    exact ⟨ad, e, rfl, hc⟩)
  have HL := hid' (show ∀ (j : Nat) (x : Bool × Int), l[j]? = some x → I64 x.2 from fun j x hj => by
    obtain ⟨ad, row, e, ha, hl, hc⟩ := hr j x hj
    exact ha.cells.2)
  clear hr hn hk0
  go_enter Try.func4, Try.ntmps4
  go_wp2_with fail
  refine (law08_speaks w).mono ?_
  rintro e w1 ⟨rfl, hB⟩
  by_cases h2 : 60 < l.length
  · go_wp2
    go_ret
    exact ⟨rfl, hB⟩
  have HR1 := hid' (HR.out.below hB)
  have HB := hid' hB
  have HS := hid' (SH.new_ (bel_refl w1))
  clear HR hB
  go_wp2
  go_loopw [6, 30] (fun v6 v30 wr => ∃ (k : Nat) (v : Value) (bs : List (Int × Nat)) (q : List Int), k ≤ l.length ∧ v30 = .int .i64 k ∧ SH w1 wr w1.heap.size v bs v6 q ∧ Hid (HistOf bs q ∧ q.length ≤ k)) (fun _ v30 _ => l.length - (intOf v30).toNat)
  case atStart => exact ⟨0, _, [], [], by omega, rfl, HS.out, HistOf.nil, Nat.le_refl _⟩
  case round =>
    obtain ⟨k, v, bs, q, hk, rfl, hS, HQ⟩ := hrel
    by_cases hlt : k < l.length
    · obtain ⟨x, hx⟩ : ∃ x, l[k]? = some x := ⟨_, List.getElem?_eq_getElem hlt⟩
      obtain ⟨ad, rfl, -, hc⟩ := HR1.out.below hS.bel k x hx
      have hxI := HL.out k x hx
      obtain ⟨out, n⟩ := x
      have hc0 : wr.cell? (ad.add (k * 2)) = some (.bool out) := hc 0 _ rfl
      have hc1 : wr.cell? ⟨(ad.add (k * 2)).block, (ad.add (k * 2)).off + 1, none⟩ = some (.int .i64 n) := hc 1 _ rfl
      clear hc hx
      dsimp only at hxI
      have hS1 := hS.below (bel_alloc (bel_refl wr) (.cells #[.bool out, .int .i64 n] 35))
      have hbx := Blk.new_ wr 35 #[.bool out, .int .i64 n]
      have htq := HQ.out.1.tot
      have hql := HQ.out.2
      have His := hid' (HQ.out.1.is n)
      cases out
      · have hadd := HQ.out.1.add n
        have htq2 := hadd.tot
        rw [List.length_append, List.length_singleton] at htq2
        obtain ⟨A6, c6, rfl, hc6, hm6, hr6⟩ := hS1.rd
        have HBX := hid' hbx
        have HF := hid' (hS.far (Nat.le_refl _))
        have HS1 := hid' hS1
        have HADD := hid' hadd
        clear hbx hS hS1 hr6 hadd
        go_wp2_with fail
        generalize wr.alloc (.cells #[.bool false, .int .i64 n] 35) = wa at *
        refine (HS1.out.add n (by omega)).mono ?_
        rintro e w3 ⟨rfl, v3, hS3, hM3⟩
        have HBX3 := hid' (HBX.out.mod hM3 (by have := HF.out; intro h; rcases h with h | h; exact this.1 h; exact this.2 h))
        have d0 : w3.cell? ⟨wr.heap.size, 0, none⟩ = some (.bool false) := by simpa using HBX3.out.cell 0
        have d1 : w3.cell? ⟨wr.heap.size, 1, none⟩ = some (.int .i64 n) := by simpa using HBX3.out.cell 1
        have HS3 := hid' hS3
        have hlw : wr.heap.size < w3.heap.size := HBX3.out.lt
        have hlw2 : wr.heap.size ≠ w3.heap.size := by omega
        obtain ⟨A7, c7, e7, hc7, hm7, hr7⟩ := hS3.rd
        injection e7 with e7 _ e8
        subst e7 e8
        have HR7 := hid' hr7
        clear hS3 hM3 hr7
        go_wp2
        have hinfo : (Try.prog.info? 3).map (fun i => (i.zero, i.size, i.bytes)) = some (some (.int .i64 0), 1, 8) := by kernel_rfl
        have hql : q.length ≤ 100000 := by omega
        go_region_law ((first
          | ((refine step_append_ex2 rfl (.tmp 52) (.tmp 53) 22 22 rfl (.slice (some ⟨(w3).heap.size, 0, none⟩) 0 0) (.slice A6 (q).length c6) (by simp [Act.eval, Act.put]) (by simp [Act.eval, Act.put]) _ (copy_row w3 22 _ 3 Try.underlying22 hinfo A6 c6 q HR7.out hql _ _ (by omega) (by first | exact own_lit0 w3 _ _ _ (Nat.le_refl _) | exact World.ownsRow.alloc (own_lit0 w3 _ _ _ (Nat.le_refl _)) _) (by first | exact bel_drew (bel_alloc (bel_refl _) _) | exact bel_alloc (bel_refl _) _ | exact bel_drew (bel_alloc (bel_alloc (bel_refl _) _) _) | exact bel_alloc (bel_alloc (bel_refl _) _) _)) ?_; intro v1 w1 hw1); have d3 := (hw1.out.2.1.cell (p := ⟨wr.heap.size, 1, none⟩) hlw).trans d1; have hl3 := hw1.out.2.1.size; have hne3 : wr.heap.size ≠ w1.heap.size := (by omega))
          | ((refine step_append_ex2 rfl (.tmp 52) (.tmp 53) 22 22 rfl (.slice (some ⟨(w3).heap.size + 1, 0, none⟩) 0 0) (.slice A6 (q).length c6) (by simp [Act.eval, Act.put]) (by simp [Act.eval, Act.put]) _ (copy_row w3 22 _ 3 Try.underlying22 hinfo A6 c6 q HR7.out hql _ _ (by omega) (own_lit1 w3 _ _ _ _ (Nat.le_refl _)) (by first | exact bel_drew (bel_alloc (bel_refl _) _) | exact bel_alloc (bel_refl _) _ | exact bel_drew (bel_alloc (bel_alloc (bel_refl _) _) _) | exact bel_alloc (bel_alloc (bel_refl _) _) _)) ?_; intro v1 w1 hw1); have d3 := (hw1.out.2.1.cell (p := ⟨wr.heap.size, 1, none⟩) hlw).trans d1; have hl3 := hw1.out.2.1.size; have hne3 : wr.heap.size ≠ w1.heap.size := (by omega))
          | (refine step_append_ex2 rfl (.tmp 54) (.tmp 57) 22 22 rfl v1 (.slice (some ⟨w1.heap.size, 0, none⟩) 1 1) (by simp [Act.eval, Act.put]) (by simp [Act.eval, Act.put]) _ (more_row w3 22 _ 3 Try.underlying22 hinfo q hql n v1 _ _ (by first | exact own_below hw1.out.1 (bel_alloc (bel_refl _) _) | exact own_below hw1.out.1 (bel_drew (bel_alloc (bel_refl _) _))) (by first | exact bel_alloc hw1.out.2.1 _ | exact bel_drew (bel_alloc hw1.out.2.1 _) | exact hw1.out.2.1 | exact bel_drew hw1.out.2.1) (rd_new _ _ _)) ?_; intro v2 w2 hw2)
          | (refine step_append_ex2 rfl (.tmp 54) (.tmp 57) 22 22 rfl v1 (.slice (some ⟨(w3).heap.size + 1, 0, none⟩) 1 1) (by simp [Act.eval, Act.put]) (by simp [Act.eval, Act.put]) _ (more_row w3 22 _ 3 Try.underlying22 hinfo q hql n v1 _ _ hw1.out.1 (by first | exact bel_alloc hw1.out.2.1 _ | exact bel_drew (bel_alloc hw1.out.2.1 _) | exact hw1.out.2.1 | exact bel_drew hw1.out.2.1) (by first | exact rd_keep (rd_new1 w3 _ _ _) hw1.out.2.2 (by omega) | exact rd_keep (Rd.drew (rd_new1 w3 _ _ _)) hw1.out.2.2 (by omega))) ?_; intro v2 w2 hw2)
          | (refine step_append_ex2 rfl (.tmp 54) (.tmp 57) 22 22 rfl v1 (.slice (some ⟨(w3).heap.size, 0, none⟩) 1 1) (by simp [Act.eval, Act.put]) (by simp [Act.eval, Act.put]) _ (more_row w3 22 _ 3 Try.underlying22 hinfo q hql n v1 _ _ hw1.out.1 (by first | exact bel_alloc hw1.out.2.1 _ | exact bel_drew (bel_alloc hw1.out.2.1 _) | exact hw1.out.2.1 | exact bel_drew hw1.out.2.1) (by first | exact rd_keep (Rd.alloc (rd_new w3 _ _) _) hw1.out.2.2 (by omega) | exact rd_keep (Rd.drew (Rd.alloc (rd_new w3 _ _) _)) hw1.out.2.2 (by omega))) ?_; intro v2 w2 hw2)))
        all_goals
          have hS4 := (HS3.out.below hw2.out.2).setl (HS3.out.bel.size) hw2.out.1
          obtain ⟨A8, c8, rfl, -, -, -⟩ := hS4.rd
          rw [show (q ++ [n]).length = q.length + 1 by simp] at hS4
          have HS4 := hid' hS4
          clear hS4 hw2
          go_wp2_with (go_at_call 17; refine (HS4.out.len).mono ?_; rintro e w' ⟨rfl, rfl⟩; rw [htq2])
          all_goals first | (exfalso; simp at *; omega) | skip
          go_roundw
          case rel => exact ⟨k + 1, v3, addB n bs, q ++ [n], by omega, by go_num, HS4.out, HADD.out, by simp; omega⟩
          case measure => first | (simp [intOf]; done) | (simp [intOf]; omega)
      · have hrem := HQ.out.1.rem n
        have htq2 := hrem.tot
        obtain ⟨A6, c6, rfl, hc6, hm6, hr6⟩ := hS1.rd
        have HBX := hid' hbx
        have HS1 := hid' hS1
        have HR6 := hid' hr6
        have HRM := hid' hrem
        clear hbx hS hS1 hr6 hrem
        go_wp2_with fail
        generalize wr.alloc (.cells #[.bool true, .int .i64 n] 35) = wa at *
        refine (ref08_Without A6 c6 q n wa HR6.out (by omega) hc6).mono ?_
        rintro e w2 ⟨v2, rfl, hB2, hcase⟩
        have HBX2 := hid' (HBX.out.below hB2)
        have d0 : w2.cell? ⟨wr.heap.size, 0, none⟩ = some (.bool true) := by simpa using HBX2.out.cell 0
        have d1 : w2.cell? ⟨wr.heap.size, 1, none⟩ = some (.int .i64 n) := by simpa using HBX2.out.cell 1
        have HS2 := hid' (HS1.out.below hB2)
        have hS2 : SH w1 w2 w1.heap.size v bs v2 (q.erase n) := by
          rcases hcase with ⟨hm, ho⟩ | ⟨hm, rfl⟩
          · exact HS2.out.setl (HS1.out.bel.size) ho
          · rw [List.erase_of_not_mem hm]; exact HS2.out
        obtain ⟨A2, c2, rfl, -, -, -⟩ := hS2.rd
        have HS3 := hid' hS2
        clear hcase hS2
        go_wp2_with (first
          | (go_at_call 16; refine (HS3.out.remove n).mono ?_; rintro e w3 ⟨rfl, v3, hS3, -⟩; rw [His.out])
          | (go_at_call 17; refine (hS3.len).mono ?_; rintro e w' ⟨rfl, rfl⟩; rw [htq2]))
        go_roundw
        case rel => exact ⟨k + 1, v3, remB n bs, q.erase n, by omega, by go_num, hS3, HRM.out, by have := List.length_erase_le (a := n) (l := q); omega⟩
        case measure => first | (simp [intOf]; done) | (simp [intOf]; omega)
    · obtain ⟨A6, c6, rfl, hc6, hm6, hr6⟩ := hS.rd
      have HS1 := hid' hS
      have hq60 : q.length ≤ 60 := by have := HQ.out.2; omega
      clear hS hr6
      go_wp2
      go_loopw [11] (fun v11 wr2 => ∃ i : Nat, v11 = .int .i64 i ∧ i ≤ q.length + 2 ∧ SH w1 wr2 w1.heap.size v bs (.slice A6 q.length c6) q) (fun v11 _ => q.length + 2 - (intOf v11).toNat)
      case atStart => exact ⟨0, rfl, by omega, HS1.out⟩
      case round =>
        obtain ⟨i, rfl, hi, hS2⟩ := hrel
        have HS2 := hid' hS2
        clear hS2
        by_cases hlt2 : i < q.length + 2
        · have HLE := hid' (fun w hr => ref08_Least A6 c6 q (max (i : Int) 1) w hr (by omega))
          by_cases h1 : i = 0
          · subst h1
            have HK := hid' (show rkR bs 0 = (0, false) from rfl)
            go_wp2_with (first
              | (go_at_call 14; refine (HS2.out.rank 0 (by unfold I64; omega)).mono ?_; rintro e w3 ⟨rfl, hS3⟩; rw [HK.out]; obtain ⟨A7, c7, e7, -, -, hr7⟩ := hS3.rd; injection e7 with e7 _ e8; subst e7 e8)
              | (go_at_call 18; refine (HLE.out _ hr7).mono ?_; rintro e w' ⟨rfl, rfl⟩))
            go_roundw
            case rel => exact ⟨1, rfl, by omega, hS3⟩
            case measure => first | (simp [intOf]; done) | (simp [intOf]; omega)
          · have hk1 := rk_least HQ.out.1 (i : Int) (by omega)
            rw [show max (i : Int) 1 = (i : Int) by omega] at HLE
            rw [← hk1] at HLE
            by_cases h2 : q.length < i
            · have HK := hid' (show rkR bs (i : Int) = (0, false) by rw [hk1]; exact lst_none (by omega))
              clear hk1
              go_wp2_with (first
                | (go_at_call 14; refine (HS2.out.rank _ (by unfold I64; omega)).mono ?_; rintro e w3 ⟨rfl, hS3⟩; rw [HK.out]; obtain ⟨A7, c7, e7, -, -, hr7⟩ := hS3.rd; injection e7 with e7 _ e8; subst e7 e8)
                | (go_at_call 18; (try rw [show max (i : Int) 1 = (i : Int) by omega]); refine (HLE.out _ hr7).mono ?_; rintro e w' ⟨rfl, rfl⟩))
              go_roundw
              case rel => exact ⟨i + 1, by go_num, by omega, hS3⟩
              case measure => first | (simp [intOf]; done) | (simp [intOf]; omega)
            · obtain ⟨⟨m, b⟩, hmb⟩ : ∃ mb, rkR bs (i : Int) = mb := ⟨_, rfl⟩
              rw [hmb] at HLE
              have HK := hid' hmb
              clear hk1 hmb
              go_wp2_with (first
                | (go_at_call 14; refine (HS2.out.rank _ (by unfold I64; omega)).mono ?_; rintro e w3 ⟨rfl, hS3⟩; rw [HK.out]; obtain ⟨A7, c7, e7, -, -, hr7⟩ := hS3.rd; injection e7 with e7 _ e8; subst e7 e8)
                | (go_at_call 18; (try rw [show max (i : Int) 1 = (i : Int) by omega]); refine (HLE.out _ hr7).mono ?_; rintro e w' ⟨rfl, rfl⟩))
              all_goals first | (exfalso; simp at *; omega) | skip
              go_roundw
              case rel => exact ⟨i + 1, by go_num, by omega, hS3⟩
              case measure => first | (simp [intOf]; done) | (simp [intOf]; omega)
        · go_wp2
          go_loopw [99] (fun v99 wr3 => ∃ p : Nat, v99 = .int .i64 p ∧ p ≤ 101 ∧ SH w1 wr3 w1.heap.size v bs (.slice A6 q.length c6) q) (fun v99 _ => 101 - (intOf v99).toNat)
          case atStart => exact ⟨0, rfl, by omega, HS2.out⟩
          case round =>
            obtain ⟨p, rfl, hp, hS3⟩ := hrel
            have HS3 := hid' hS3
            clear hS3
            by_cases hlt3 : p < 101
            · have HPE := hid' (fun w hr => ref08_Percent A6 c6 q (p : Int) w hr (by omega) (by omega) (by omega))
              rw [← pc_least HQ.out.1 (p : Int) (by omega)] at HPE
              obtain ⟨⟨m, b⟩, hmb⟩ : ∃ mb, pcR bs (p : Int) (totB bs : Nat) = mb := ⟨_, rfl⟩
              rw [hmb] at HPE
              have HK := hid' hmb
              clear hmb
              go_wp2_with (first
                | (go_at_call 19; refine (HS3.out.percent _ (by omega) (by omega)).mono ?_; rintro e w3 ⟨rfl, hS4⟩; rw [HK.out]; obtain ⟨A7, c7, e7, -, -, hr7⟩ := hS4.rd; injection e7 with e7 _ e8; subst e7 e8)
                | (go_at_call 20; refine (HPE.out _ hr7).mono ?_; rintro e w' ⟨rfl, rfl⟩))
              all_goals first | (exfalso; simp at *; omega) | skip
              go_roundw
              case rel => exact ⟨p + 1, by go_num, by omega, hS4⟩
              case measure => first | (simp [intOf]; done) | (simp [intOf]; omega)
            · have HI := hid' (lst_is HQ.out.1 k0)
              by_cases g1 : 1 ≤ k0
              · by_cases g2 : k0 ≤ (q.length : Int)
                · rw [decide_eq_true ⟨g1, g2⟩] at HI
                  go_wp2_with (go_at_call 14; refine (HS3.out.rank k0 hkI).mono ?_; rintro e w3 ⟨rfl, hS4⟩; rw [HI.out])
                  go_ret
                  exact ⟨by first | rfl | (simp; omega) | (simp [g1, g2]; done), bel_then HB.out hS4.bel⟩
                · rw [decide_eq_false (fun h => g2 h.2)] at HI
                  go_wp2_with (go_at_call 14; refine (HS3.out.rank k0 hkI).mono ?_; rintro e w3 ⟨rfl, hS4⟩; rw [HI.out])
                  go_ret
                  exact ⟨by first | rfl | (simp; omega) | (simp [g1, g2]; done), bel_then HB.out hS4.bel⟩
              · rw [decide_eq_false (fun h => g1 h.1)] at HI
                go_wp2_with (go_at_call 14; refine (HS3.out.rank k0 hkI).mono ?_; rintro e w3 ⟨rfl, hS4⟩; rw [HI.out])
                go_ret
                exact ⟨rfl, bel_then HB.out hS4.bel⟩
end Go.Proofs.Ytcgonoepndlofaa
