
/- The reference of layer 12 (percent), walked; lags as a plain law. No condition. -/
import Derived.Test.YtcgonoepndlofaaPercent
namespace Go.Proofs.Ytcgonoepndlofaa
set_option maxRecDepth 100000
set_option linter.unusedSimpArgs false
open Go.RowKit
set_option linter.unusedVariables false

def lagsOf (l : List Int) : List Int := (List.range l.length).map (fun i => satSub (mostOf (l.take (i + 1))) (l.getD i 0))
def winL (n : Nat) (l : List Int) : List Int := (lagsOf l).drop (l.length - n)
theorem lagsOf_len (l : List Int) : (lagsOf l).length = l.length := by unfold lagsOf; simp
theorem lagsOf_get {l : List Int} {i : Nat} {x : Int} (hx : l[i]? = some x) : (lagsOf l)[i]? = some (satSub (mostOf (l.take (i + 1))) x) := by
  have hi := (List.getElem?_eq_some_iff.1 hx).1
  unfold lagsOf
  rw [List.getElem?_map, List.getElem?_range hi]
  simp [List.getD, hx]
theorem lagsOf_snoc (l : List Int) (x : Int) : lagsOf (l ++ [x]) = lagsOf l ++ [satSub (max (mostOf l) x) x] := by
  apply List.ext_getElem?
  intro i
  rcases Nat.lt_trichotomy i l.length with h | h | h
  · have hx : l[i]? = some l[i] := List.getElem?_eq_getElem h
    have hx2 : (l ++ [x])[i]? = some l[i] := by rw [List.getElem?_append_left h]; exact hx
    rw [lagsOf_get hx2, List.getElem?_append_left (by rw [lagsOf_len]; exact h), lagsOf_get hx, List.take_append_of_le_length (by omega)]
  · subst h
    have hx2 : (l ++ [x])[l.length]? = some x := by simp
    rw [lagsOf_get hx2, List.getElem?_append_right (by rw [lagsOf_len]; exact Nat.le_refl _), lagsOf_len, Nat.sub_self, List.take_of_length_le (by simp), mostOf_snoc]; rfl
  · rw [List.getElem?_eq_none (by rw [lagsOf_len]; simp; omega), List.getElem?_eq_none (by simp [lagsOf_len]; omega)]
theorem winL_snoc (n : Nat) (l : List Int) (x : Int) (hn : 0 < n) : winL n (l ++ [x]) = pushQ n (winL n l) (satSub (max (mostOf l) x) x) := by
  unfold winL pushQ
  rw [lagsOf_snoc, List.length_append, List.length_singleton]
  by_cases h : l.length < n
  · rw [if_pos (by simp [lagsOf_len]; omega), show l.length + 1 - n = 0 by omega, show l.length - n = 0 by omega]; rfl
  · rw [if_neg (by simp [lagsOf_len]; omega), show l.length + 1 - n = (l.length - n) + 1 by omega, List.drop_append_of_le_length (by rw [lagsOf_len]; omega), List.tail_drop]
theorem winL_len (n : Nat) (l : List Int) : (winL n l).length = l.length - (l.length - n) := by unfold winL; rw [List.length_drop, lagsOf_len]
theorem winL_I64 (n : Nat) (l : List Int) : ∀ x ∈ winL n l, I64 x := by
  intro x hx
  have := List.mem_of_mem_drop hx
  unfold lagsOf at this
  obtain ⟨i, _, rfl⟩ := List.mem_map.1 this
  exact I64.satSub _ _
theorem push_row {P : Program} (w : World) (t ty e : TypeId) (ht : P.underlying t = some (.slice e)) (hinfo : (P.info? e).map (fun i => (i.zero, i.size, i.bytes)) = some (some (.int .i64 0), 1, 8)) (q : List Int) (hq : q.length ≤ 100000) (n : Int) (v1 : Value)
    (W : World) (M : Nat) (ho : W.ownsRow w.heap.size e 1 v1 q.length (q.map (.int .i64))) (hB : Below w.heap.size w W) (hr : Rd W (some ⟨M, 0, none⟩) [.int .i64 n]) :
    ∃ v' w', (Builtin.append_ #[t, t] ty #[v1, .slice (some ⟨M, 0, none⟩) 1 1]).run P W = .ok v' w' ∧ Hid (w'.ownsRow w.heap.size e 1 v' (q ++ [n]).length ((q ++ [n]).map (.int .i64)) ∧ Below w.heap.size w w') :=
  more_row w t ty e ht hinfo q hq n v1 W M (by rw [Nat.zero_add, List.nil_append]; exact ho) hB hr
/-- What stands in the window of the first k numbers of l, as far as the i-th. -/
def lagsTo (n : Nat) (l : List Int) (i : Nat) : List Int := (lagsOf l).take i |>.drop (l.length - n)
theorem lagsTo_in {n : Nat} {l : List Int} {i : Nat} {x : Int} (hx : l[i]? = some x) (h : l.length ≤ i + n) : lagsTo n l (i + 1) = lagsTo n l i ++ [satSub (mostOf (l.take (i + 1))) x] := by
  have hi := (List.getElem?_eq_some_iff.1 hx).1
  unfold lagsTo
  rw [take_snoc' (lagsOf_get hx), List.drop_append_of_le_length (by rw [List.length_take, lagsOf_len]; omega)]
theorem lagsTo_out {n : Nat} {l : List Int} {i : Nat} (h : ¬ l.length ≤ i + n) : lagsTo n l (i + 1) = [] ∧ lagsTo n l i = [] := by
  unfold lagsTo
  exact ⟨List.drop_eq_nil_of_le (by rw [List.length_take]; omega), List.drop_eq_nil_of_le (by rw [List.length_take]; omega)⟩
set_option maxHeartbeats 4000000 in
theorem ref12_Lags (A : Option Addr) (c : Nat) (l : List Int) (n : Nat) (w : World) (hr : Rd w A (l.map (.int .i64))) (hl : ∀ x ∈ l, I64 x) (hn : l.length ≤ 10000) (hc : l.length ≤ c) (hnn : n ≤ 10000) :
    Calls Try.prog 60 #[.slice A l.length c, .int .i64 (n : Int)] w fun e w' => ∃ v, e = .returned v ∧ w'.ownsRow w.heap.size 3 1 v (winL n l).length ((winL n l).map (.int .i64)) ∧ Below w.heap.size w w' := by
  have H := hid' hr
  have HL := hid' hl
  have hinfo : (Try.prog.info? 3).map (fun i => (i.zero, i.size, i.bytes)) = some (some (.int .i64 0), 1, 8) := by kernel_rfl
  clear hr hl
  go_enter Try.func60, Try.ntmps60
  go_wp2
  go_loopw [5, 6] (fun v5 v6 wr => ∃ i : Nat, i ≤ l.length ∧ v6 = .int .i64 i ∧ Below w.heap.size w wr ∧ wr.ownsRow w.heap.size 3 1 v5 (lagsTo n l i).length ((lagsTo n l i).map (.int .i64))) (fun _ v6 _ => l.length - (intOf v6).toNat)
  case atStart => exact ⟨0, by omega, rfl, bel_alloc (bel_refl w) _, by unfold lagsTo; simpa using own_lit0 w w.heap.size 3 1 (Nat.le_refl _)⟩
  case round =>
    obtain ⟨i, hi, rfl, hB, hO⟩ := hrel
    have HO := hid' hO
    clear hO
    by_cases hlt : i < l.length
    · by_cases hin : l.length ≤ i + n
      · obtain ⟨ad, x, rfl, hx, hcw⟩ := Rd.at_ H.out hlt
        have hcx : wr.cell? (ad.add i) = some (.int .i64 x) := (hB.cell (World.block_lt_of_cell? w _ hcw)).trans hcw
        have HCW := hid' hcw
        have hxI := HL.out x (mem_of_get hx)
        have HT := hid' (lagsTo_in hx hin)
        obtain ⟨k1, hk1⟩ : ∃ k1, k1 = i + 1 := ⟨_, rfl⟩
        have z1 : (i : Int) + 1 = (k1 : Int) := by omega
        have z2 : IntKind.i64.wrap (k1 : Int) = (k1 : Int) := by rw [IntKind.wrap_i64]; omega
        have z3 : (0 : Int) ≤ (k1 : Int) := by omega
        have z4 : (k1 : Int) ≤ (c : Int) := by omega
        have hcut := cut_h (P := Try.prog) 22 3 1 Try.underlying22 (by kernel_rfl) (some ad) l.length c k1 (by omega)
        rw [← hk1] at HT
        have HMo := hid' (fun (W : World) (hb : Dr wr W) => ref10_Most (some ad) c k1 (l.take k1) W (((H.out.below hB).take_map k1).below hb.below) (by rw [List.length_take]; omega) (by omega))
        have hmI := mostOf_I64 (l.take k1) (fun y hy => HL.out y (List.mem_of_mem_take hy))
        obtain ⟨M, hM⟩ : ∃ M, M = mostOf (l.take k1) := ⟨_, rfl⟩
        rw [← hM] at HMo HT hmI
        obtain ⟨q, hq⟩ : ∃ q, q = lagsTo n l i := ⟨_, rfl⟩
        rw [← hq] at HT HO
        have hql : q.length ≤ 100000 := by rw [hq]; unfold lagsTo; rw [List.length_drop, List.length_take]; omega
        have hK1 := hid' hk1
        clear hk1 hx hM hq hcw
        have hge : ¬ (i : Int) + (n : Int) < (l.length : Int) := by omega
        go_wp2_with fail
        go_region_held3 (fun w' => w'.cell? (ad.add i) = some (.int .i64 x))
          (first | go_keep | exact hcx2 | exact hcx)
          (first
            | (go_at_call 65; refine (HMo.out _ (by repeat (first | exact Dr.refl _ | apply Dr.step | apply Dr.stepd))).mono ?_; rintro e w' ⟨rfl, rfl⟩)
            | (go_at_call 79; refine (ref_Sub _ _ _ hmI hxI).mono ?_; rintro e w' ⟨rfl, rfl⟩)
            | (refine step_append_ex2 rfl (.tmp 20) (.tmp 31) 22 22 rfl _ (.slice (some ⟨wr.heap.size, 0, none⟩) 1 1) rfl rfl _ (push_row w 22 _ 3 Try.underlying22 hinfo q hql (satSub M x) _ _ _ (own_below HO.out (by first | exact bel_alloc (bel_refl _) _ | exact bel_drew (bel_alloc (bel_refl _) _) | exact bel_drewN (bel_alloc (bel_refl _) _) _)) (by repeat (first | assumption | apply bel_alloc | apply bel_drewN | apply bel_drew | exact bel_refl _)) (rd_new _ _ _)) ?_; intro v2 w2 hw2; have hcx2 := (hw2.out.2.cell (p := ad.add i) (World.block_lt_of_cell? w _ HCW.out)).trans HCW.out))
        all_goals
          go_wp2
          go_roundw
          case rel => exact ⟨i + 1, by omega, by go_num, hw2.out.2, by rw [show i + 1 = k1 by omega, HT.out]; exact hw2.out.1⟩
          case measure => first | (simp [intOf]; done) | (simp [intOf]; omega)
      · obtain ⟨e1, e2⟩ := lagsTo_out hin
        rw [e2] at HO
        have E1 := hid' e1
        clear e1 e2
        go_wp2
        go_roundw
        case rel => exact ⟨i + 1, by omega, by go_num, hB, by rw [E1.out]; exact HO.out⟩
        case measure => first | (simp [intOf]; done) | (simp [intOf]; omega)
    · go_wp2
      go_ret
      refine ⟨_, rfl, ?_, hB⟩
      have := HO.out
      rw [show lagsTo n l i = winL n l by unfold lagsTo winL; rw [List.take_of_length_le (by rw [lagsOf_len]; omega)]] at this
      exact this
theorem ref12_Lag (A : Option Addr) (c : Nat) (l : List Int) (p : Int) (n : Nat) (w : World) (hr : Rd w A (l.map (.int .i64))) (hl : ∀ x ∈ l, I64 x) (hn : l.length ≤ 10000) (hc : l.length ≤ c) (hnn : n ≤ 10000) (hp0 : 0 ≤ p) (hp1 : p ≤ 100) :
    Calls Try.prog 25 #[.slice A l.length c, .int .i64 p, .int .i64 (n : Int)] w fun e w' => e = .returned (.int .i64 (pLag (winL n l) p)) ∧ Below w.heap.size w w' := by
  have HLg := hid' (fun w hr => ref12_Lags A c l n w hr hl hn hc hnn)
  have HR := hid' hr
  have hwl : (winL n l).length ≤ 100000 := by rw [winL_len n l]; omega
  clear hr hl
  go_enter Try.func25, Try.ntmps25
  go_wp2_with fail
  refine (HLg.out w HR.out).mono ?_
  rintro e w1 ⟨v, rfl, hO, hB⟩
  obtain ⟨A1, c1, rfl, -, -, hr1⟩ := own_rd hO
  have HP := ref08_Percent A1 c1 (winL n l) p w1 hr1 hwl hp0 hp1
  have HQ := hid' (show pLag (winL n l) p = (lstOf (percP (winL n l) p) (winL n l)).1 from rfl)
  obtain ⟨⟨m, b⟩, hmb⟩ : ∃ mb, lstOf (percP (winL n l) p) (winL n l) = mb := ⟨_, rfl⟩
  rw [hmb] at HP HQ
  have HP := hid' HP
  clear hO hr1 hmb

  go_wp2_with fail
  refine (HP.out).mono ?_
  rintro e w' ⟨rfl, rfl⟩
  go_wp2
  go_ret
  exact ⟨ret_int HQ.out.symm, hB⟩
/-- How far time has come, by all: the greatest of what each beginning says. -/
def pNow (l : List Int) (p : Int) (n : Nat) : Nat → Int
  | 0 => NEV
  | i + 1 => max (pNow l p n i) (bAfter (mostOf (l.take (i + 1))) (pLag (winL n (l.take (i + 1))) p))
theorem pNow_I64 (l : List Int) (p : Int) (n : Nat) : ∀ i, I64 (pNow l p n i)
  | 0 => I64.nev
  | i + 1 => by
    rw [pNow]
    have h1 := pNow_I64 l p n i
    have h2 := I64.bAfter (mostOf (l.take (i + 1))) (pLag (winL n (l.take (i + 1))) p)
    unfold I64 at *; omega
set_option maxHeartbeats 4000000 in
theorem ref12_Now (A : Option Addr) (c : Nat) (l : List Int) (p : Int) (n : Nat) (w : World) (hr : Rd w A (l.map (.int .i64))) (hl : ∀ x ∈ l, I64 x) (hn : l.length ≤ 10000) (hc : l.length ≤ c) (hnn : n ≤ 10000) (hp0 : 0 ≤ p) (hp1 : p ≤ 100) :
    Calls Try.prog 27 #[.slice A l.length c, .int .i64 p, .int .i64 (n : Int)] w fun e w' => e = .returned (.int .i64 (pNow l p n l.length)) ∧ Below w.heap.size w w' := by
  have H := hid' hr
  have HL := hid' hl
  clear hr hl
  go_enter Try.func27, Try.ntmps27
  go_wp2
  go_loopw [7, 8] (fun v7 v8 wr => ∃ i : Nat, i ≤ l.length ∧ v8 = .int .i64 ((i + 1 : Nat) : Int) ∧ v7 = .int .i64 (pNow l p n i) ∧ Below w.heap.size w wr) (fun _ v8 _ => l.length + 1 - (intOf v8).toNat)
  case atStart => exact ⟨0, by omega, rfl, rfl, bel_refl w⟩
  case round =>
    obtain ⟨i, hi, rfl, rfl, hB⟩ := hrel
    obtain ⟨k1, hk1⟩ : ∃ k1, k1 = i + 1 := ⟨_, rfl⟩
    rw [← hk1]
    by_cases hlt : i < l.length
    · have hk2 : k1 ≤ l.length := by omega
      have hcut := cut_h (P := Try.prog) 22 3 1 Try.underlying22 (by kernel_rfl) A l.length c k1 (by omega)
      have htl : (l.take k1).length = k1 := by rw [List.length_take]; omega
      have hti : ∀ y ∈ l.take k1, I64 y := fun y hy => HL.out y (List.mem_of_mem_take hy)
      have HS := hid' (show pNow l p n k1 = max (pNow l p n i) (bAfter (mostOf (l.take k1)) (pLag (winL n (l.take k1)) p)) by rw [hk1]; rfl)
      have hLI := I64.pLag (winL_I64 n (l.take k1)) p
      have HLag := hid' (fun (W : World) (hd : Dr wr W) => show Calls Try.prog 25 #[.slice A k1 c, .int .i64 p, .int .i64 (n : Int)] W fun e w' => e = .returned (.int .i64 (pLag (winL n (l.take k1)) p)) ∧ Below W.heap.size W w' from by
        have := ref12_Lag A c (l.take k1) p n W (((H.out.below hB).take_map k1).below hd.below) hti (by omega) (by omega) hnn hp0 hp1
        rwa [htl] at this)
      have HNow := hid' (fun (W : World) (hb : Below w.heap.size w W) => show Calls Try.prog 61 #[.slice A k1 c, .int .i64 (pLag (winL n (l.take k1)) p)] W fun e w' => e = .returned (.int .i64 (bAfter (mostOf (l.take k1)) (pLag (winL n (l.take k1)) p))) ∧ W = w' from by
        have := ref10_Now A c k1 (l.take k1) (pLag (winL n (l.take k1)) p) W ((H.out.below hb).take_map k1) htl (by omega) hti hLI
        rw [show nowOf (l.take k1) (pLag (winL n (l.take k1)) p) = bAfter (mostOf (l.take k1)) (pLag (winL n (l.take k1)) p) by unfold nowOf; rw [if_neg (by intro e; rw [e] at htl; simp at htl; omega)]] at this
        exact this)
      obtain ⟨x, hx⟩ : ∃ x, x = bAfter (mostOf (l.take k1)) (pLag (winL n (l.take k1)) p) := ⟨_, rfl⟩
      rw [← hx] at HNow HS
      have z3 : (0 : Int) ≤ (k1 : Int) := by omega
      have z4 : (k1 : Int) ≤ (c : Int) := by omega
      have z5 : (k1 : Int) ≤ (l.length : Int) := by omega
      have HK1 := hid' hk1
      clear hx hk1 htl hti hLI
      go_wp2_with fail
      go_region_with (first
        | (go_at_call 25; refine (HLag.out _ (by repeat (first | exact Dr.refl _ | apply Dr.step | apply Dr.stepd))).mono ?_; rintro e w2 ⟨rfl, hB2⟩; have hB3 : Below w.heap.size w w2 := bel_then (by first | exact bel_drewN hB _ | exact bel_drew hB | exact hB) hB2; clear hB2)
        | (go_at_call 61; refine (HNow.out _ (by repeat (first | assumption | apply bel_alloc | apply bel_drewN | apply bel_drew | exact bel_refl _))).mono ?_; rintro e w' ⟨rfl, rfl⟩))
      all_goals
        by_cases hx7 : pNow l p n i < x
        · have HM := hid' (show max (pNow l p n i) x = x by omega)
          go_wp2
          go_roundw
          case rel => exact ⟨k1, by omega, by go_num, by rw [HS.out, HM.out], hB3⟩
          case measure => first | (simp [intOf]; done) | (simp [intOf]; omega)
        · have HM := hid' (show max (pNow l p n i) x = pNow l p n i by omega)
          go_wp2
          go_roundw
          case rel => exact ⟨k1, by omega, by go_num, by rw [HS.out, HM.out], hB3⟩
          case measure => first | (simp [intOf]; done) | (simp [intOf]; omega)
    · have HK1 := hid' hk1
      have hnk : ¬ (k1 : Int) ≤ (l.length : Int) := by omega
      have hil : i = l.length := by omega
      subst hil
      clear hk1
      go_wp2
      go_ret
      exact ⟨rfl, hB⟩
end Go.Proofs.Ytcgonoepndlofaa
