/- The laws of layer 9 (clamp), walked. No condition. -/
import Derived.Test.YtoajlogbdkinkaaClamp
namespace Go.Proofs.Ytoajlogbdkinkaa
open Go.RowKit
set_option linter.unusedVariables false

theorem law09_speaks (w : World) : Calls Try.prog 32 #[] w fun e w' => e = .returned (.bool true) ∧ Below w.heap.size w w' := by
  have H0 := hid' (show clNow 0 false = -9223372036854775808 from rfl)
  have H1 := hid' (show (clAll [3, 1, 3, 5]).length = 2 by decide)
  have D0 := hid' (show decide (clNow 0 false < -9223372036854775808) = false by decide)
  have D1 := hid' (show decide (clNow 0 false < -5) = true by decide)
  have D2 := hid' (show decide (clNow (-5) true < -5) = false by decide)
  have D3 := hid' (show clNow (-5) true = -5 from rfl)
  go_enter Try.func32, Try.ntmps32
  go_wp2_with fail
  have hb := Blk.new_ w 45 #[.int .i64 0, .bool false]
  have hB := bel_alloc (bel_refl w) (.cells #[.int .i64 0, .bool false] 45)
  generalize w.alloc (.cells #[.int .i64 0, .bool false] 45) = w1 at hb hB ⊢
  go_wp2_with fail
  refine (clamp_NowB _ 0 false _ hb).mono ?_
  rintro e w' ⟨rfl, rfl⟩
  rw [H0.out]
  go_wp2_with fail
  refine (clamp_RaiseB _ 0 false (-9223372036854775808) _ hb).mono ?_
  rintro e w2 ⟨rfl, hb2, hm2⟩
  have hB2 := bel_mod hB hm2 (by intro i hi; omega)
  clear hb hB hm2
  rw [show clA 0 false (-9223372036854775808) = 0 by decide, show clS 0 false (-9223372036854775808) = false by decide] at hb2
  rw [D0.out]
  go_wp2_with fail
  refine (clamp_RaiseB _ 0 false (-5) _ hb2).mono ?_
  rintro e w3 ⟨rfl, hb3, hm3⟩
  have hB3 := bel_mod hB2 hm3 (by intro i hi; omega)
  clear hb2 hB2 hm3
  rw [show clA 0 false (-5) = -5 by decide, show clS 0 false (-5) = true by decide] at hb3
  rw [D1.out]
  go_wp2_with fail
  refine (clamp_RaiseB _ (-5) true (-5) _ hb3).mono ?_
  rintro e w4 ⟨rfl, hb4, hm4⟩
  have hB4 := bel_mod hB3 hm4 (by intro i hi; omega)
  clear hb3 hB3 hm4
  rw [show clA (-5) true (-5) = -5 by decide, show clS (-5) true (-5) = true by decide] at hb4
  rw [D2.out]
  go_wp2_with fail
  refine (clamp_NowB _ (-5) true _ hb4).mono ?_
  rintro e w' ⟨rfl, rfl⟩
  rw [D3.out]
  go_wp2_with fail
  refine (clamp_All _ _ [3, 1, 3, 5] _ ((Blk.new_ _ _ _).rd rfl) (by intro x hx; simp at hx; unfold I64; omega) (by decide)).mono ?_
  rintro e w5 ⟨v, rfl, hown, hB⟩
  obtain ⟨A, c, rfl, _, _, _⟩ := own_rd hown
  rw [H1.out]
  clear hown
  have hB' := bel_then (bel_alloc hB4 _) hB
  clear hB
  go_wp2
  go_ret
  exact ⟨rfl, hB'⟩

theorem clampRises (A : Option Addr) (c : Nat) (l : List Int) (w : World) (hr : Rd w A (l.map (.int .i64))) (hl : ∀ x ∈ l, (Lit.int .i64 x).wf = true) (hn : l.length ≤ maxLen) :
    Calls Try.prog 9 #[.slice A l.length c] w fun e w' => e = .returned (.bool true) ∧ Below w.heap.size w w' := by
  have HL := hid' (fun x hx => I64.of_wf (hl x hx))
  have hn' : l.length ≤ 9223372036854775807 := hn
  have HR := hid' hr
  clear hl hn hr
  go_enter Try.func9, Try.ntmps9
  go_wp2_with fail
  refine (law09_speaks w).mono ?_
  rintro e w1 ⟨rfl, hB⟩
  have HR1 := hid' (HR.out.below hB)
  clear HR
  by_cases h1 : 200 < l.length
  · go_wp2
    all_goals (go_ret; exact ⟨rfl, hB⟩)
  have HB := hid' hB
  clear hB
  go_wp2
  go_loopw [4, 5, 16] (fun v4 v5 v16 wr => ∃ (k : Nat) (a : Int) (s : Bool), k ≤ l.length ∧ v16 = .int .i64 k ∧ v5 = .int .i64 (clNow a s) ∧ Blk wr w1.heap.size 45 #[.int .i64 a, .bool s] ∧ Below w1.heap.size w1 wr ∧
    Hid (((l.take k).foldl clStep (NEV, [])).1 = clNow a s) ∧ wr.ownsRow w1.heap.size 3 1 v4 ((l.take k).foldl clStep (NEV, [])).2.length (((l.take k).foldl clStep (NEV, [])).2.map (.int .i64))) (fun _ _ v16 _ => l.length - (intOf v16).toNat)
  case atStart => exact ⟨0, 0, false, Nat.zero_le _, rfl, rfl, Blk.new_ _ _ _, (by repeat (first | assumption | apply bel_alloc | apply bel_drewN | apply bel_drew | exact bel_refl _)), rfl, own_nil' _ _ _ _⟩
  case round =>
    obtain ⟨k, a, s, hk, rfl, rfl, hbk, hbw, HN, hown⟩ := hrel
    have HO := hid' hown
    clear hown
    by_cases hlt : k < l.length
    · obtain ⟨ad, x, rfl, hx, hcx⟩ := Rd.at_ (HR1.out.below hbw) hlt
      have HT := hid' (take_snoc' hx)
      clear hx
      have HLen := hid' (clStep_len (l.take k) (NEV, []))
      have HS := hid' (show (l.take (k + 1)).foldl clStep (NEV, []) = clStep ((l.take k).foldl clStep (NEV, [])) x by rw [HT.out, foldl_snoc])
      have HNow := hid' (clNow_raise a s x)
      generalize (l.take k).foldl clStep (NEV, []) = st at *
      by_cases hrise : clNow a s < x
      · have HP := hid' (clStep_pos (s := st) (x := x) (by rw [HN.out]; exact hrise))
        have hlen : (st.2.length + 1) * 8 ≤ 140737488355328 := by have := HLen.out; simp at this; omega
        have hsz := hbw.size
        have HM := hid' (show max (clNow a s) x = x by omega)
        go_wp2_with (at_builtin; go_loud (refine ap_cells w1.heap.size rfl (.tmp 24) (.tmp 26) 26 3 (.int .i64 0) 1 8 rfl (by kernel_rfl) (by kernel_rfl) rfl (by decide) (by decide) _ st.2.length (st.2.map (.int .i64)) [.int .i64 x] rfl rfl rfl (by intro u hu; rw [List.mem_singleton] at hu; subst hu; rfl) HO.out hsz hlen ?_); intro v1 w2 hown hg hat)
        have hbl := bel_mod hbw (Mod.of_grown hg) (fun i hi e => by have := own_base' HO.out i e; omega)
        have hbk2 := hbk.mod (Mod.of_grown hg) (own_ne' HO.out hbk (by decide))
        have HO2 := hid' hown
        clear hown hg hat HO hbk hbw hcx
        refine (clamp_RaiseB _ a s x _ hbk2).mono ?_
        rintro e w3 ⟨rfl, hb3, hm3⟩
        have hB3 := bel_mod hbl hm3 (by intro i hi; omega)
        have HO3 := hid' (own_mod HO2.out hm3 (fun k' hk' e => own_ne' HO2.out hbk2 (by decide) (by rw [hk', e])))
        have hd : decide (clNow a s < x) = true := by rw [decide_eq_true_eq]; exact hrise
        rw [hd]
        clear hm3 hbl hbk2 HO2 hd
        go_wp2_with fail
        refine (clamp_NowB _ _ _ _ hb3).mono ?_
        rintro e w4 ⟨rfl, rfl⟩
        rw [HNow.out, HM.out]
        go_wp2
        go_roundw
        case rel => exact ⟨k + 1, clA a s x, clS a s x, by omega, by go_num, by rw [HNow.out, HM.out], hb3, hB3, by unfold Hid; rw [HS.out, HP.out, HNow.out, HM.out], by rw [HS.out, HP.out]; simpa using HO3.out⟩
        case measure => simp [intOf]; omega
      · have HP := hid' (clStep_neg (s := st) (x := x) (by rw [HN.out]; exact hrise))
        have HM := hid' (show max (clNow a s) x = clNow a s by omega)
        go_wp2_with fail
        refine (clamp_RaiseB _ a s x _ hbk).mono ?_
        rintro e w3 ⟨rfl, hb3, hm3⟩
        have hB3 := bel_mod hbw hm3 (by intro i hi; omega)
        have HO3 := hid' (own_mod HO.out hm3 (fun k' hk' e => own_ne' HO.out hbk (by decide) (by rw [hk', e])))
        have hd : decide (clNow a s < x) = false := by rw [decide_eq_false_iff_not]; omega
        rw [hd]
        clear hm3 hbk hbw HO hd hcx
        go_wp2_with fail
        refine (clamp_NowB _ _ _ _ hb3).mono ?_
        rintro e w4 ⟨rfl, rfl⟩
        rw [HNow.out, HM.out]
        go_wp2
        go_roundw
        case rel => exact ⟨k + 1, clA a s x, clS a s x, by omega, by go_num, by rw [HNow.out, HM.out], hb3, hB3, by unfold Hid; rw [HS.out, HP.out, HNow.out, HM.out, HN.out], by rw [HS.out, HP.out]; exact HO3.out⟩
        case measure => simp [intOf]; omega
    · have HF := hid' (show (l.take k).foldl clStep (NEV, []) = l.foldl clStep (NEV, []) by rw [List.take_of_length_le (by omega)])
      have HO1 := hid' (show wr.ownsRow w1.heap.size 3 1 _ (clAll l).length ((clAll l).map (.int .i64)) from by have := HO.out; rw [HF.out] at this; exact this)
      clear HO HF HN
      go_wp2_with fail
      refine (clamp_All A c l _ (HR1.out.below hbw) HL.out (by omega)).mono ?_
      rintro e w2 ⟨v, rfl, hown, hB2⟩
      obtain ⟨A1, c1, e1, _, hc1, hr1⟩ := own_rd hown
      obtain ⟨A2, c2, e2, _, hc2, hr2⟩ := own_rd (own_below HO1.out hB2)
      subst e1
      subst e2
      have hlen : (clAll l).length ≤ 9223372036854775807 := by have := clStep_len l (NEV, []); unfold clAll; simp at this; omega
      have hbb := bel_then HB.out (bel_then hbw hB2)
      clear HO1 hbw hB2 hown
      go_wp2_with fail
      refine (ref_Same A1 A2 c1 c2 (clAll l) (clAll l) _ hr1 hr2 hlen hlen).mono ?_
      rintro e w3 ⟨rfl, m, rfl⟩
      rw [show decide (clAll l = clAll l) = true from decide_eq_true rfl]
      clear hr1 hr2
      go_wp2
      go_ret
      exact ⟨rfl, bel_drewN hbb m⟩

/-! ### what rose rises again -/
def clIncr : Int → List Int → Prop
  | _, [] => True
  | m, x :: xs => m < x ∧ clIncr x xs
theorem clIncr_snoc (xs : List Int) : ∀ m, clIncr m xs → ∀ x, (xs.getLast?.getD m) < x → clIncr m (xs ++ [x]) := by
  induction xs with
  | nil => intro m _ x h; exact ⟨by simpa using h, trivial⟩
  | cons y ys ih =>
    intro m h x hx
    refine ⟨h.1, ih y h.2 x ?_⟩
    rw [List.getLast?_cons] at hx
    simpa using hx
theorem clStep_inv (xs : List Int) : ∀ s : Int × List Int, clIncr NEV s.2 → s.1 = s.2.getLast?.getD NEV → clIncr NEV (xs.foldl clStep s).2 ∧ (xs.foldl clStep s).1 = (xs.foldl clStep s).2.getLast?.getD NEV := by
  induction xs with
  | nil => intro s h1 h2; exact ⟨h1, h2⟩
  | cons x xs ih =>
    intro s h1 h2
    rw [List.foldl_cons]
    by_cases h : s.1 < x
    · rw [clStep_pos h]
      exact ih (x, s.2 ++ [x]) (clIncr_snoc _ _ h1 x (by rw [← h2]; exact h)) (by simp)
    · rw [clStep_neg h]; exact ih s h1 h2
theorem clAll_incr (xs : List Int) : clIncr NEV (clAll xs) := (clStep_inv xs (NEV, []) trivial rfl).1
theorem clAll_I64 (xs : List Int) (h : ∀ x ∈ xs, I64 x) : ∀ x ∈ clAll xs, I64 x := by
  have : ∀ (xs : List Int) (s : Int × List Int), (∀ x ∈ xs, I64 x) → (∀ x ∈ s.2, I64 x) → ∀ x ∈ (xs.foldl clStep s).2, I64 x := by
    intro xs
    induction xs with
    | nil => intro s _ h2; exact h2
    | cons x xs ih =>
      intro s h1 h2
      rw [List.foldl_cons]
      refine ih _ (fun y hy => h1 y (List.mem_cons_of_mem _ hy)) ?_
      unfold clStep
      split
      · intro y hy
        rcases List.mem_append.1 hy with hy | hy
        · exact h2 y hy
        · rw [List.mem_singleton] at hy; subst hy; exact h1 _ (List.mem_cons_self ..)
      · exact h2
  exact this xs (NEV, []) h (by simp)
theorem clStep_incr (xs : List Int) : ∀ (m : Int) (out : List Int), clIncr m xs → (xs.foldl clStep (m, out)).2 = out ++ xs := by
  induction xs with
  | nil => intro m out _; simp
  | cons x xs ih =>
    intro m out h
    rw [List.foldl_cons, clStep_pos h.1, ih x _ h.2]; simp
theorem clAll_again (xs : List Int) : clAll (clAll xs) = clAll xs := by
  have := clStep_incr (clAll xs) NEV [] (clAll_incr xs)
  simpa [clAll] using this
theorem clIncr_at (xs : List Int) : ∀ m, clIncr m xs → ∀ k x y, xs[k]? = some x → xs[k + 1]? = some y → x < y := by
  induction xs with
  | nil => intro m _ k x y h; simp at h
  | cons z zs ih =>
    intro m h k x y hx hy
    cases k with
    | zero =>
      cases zs with
      | nil => simp at hy
      | cons u us => simp at hx hy; subst hx; subst hy; exact h.2.1
    | succ k => exact ih z h.2 k x y (by simpa using hx) (by simpa using hy)

theorem clampAgain (A : Option Addr) (c : Nat) (l : List Int) (w : World) (hr : Rd w A (l.map (.int .i64))) (hl : ∀ x ∈ l, (Lit.int .i64 x).wf = true) (hn : l.length ≤ maxLen) :
    Calls Try.prog 10 #[.slice A l.length c] w fun e w' => e = .returned (.bool true) ∧ Below w.heap.size w w' := by
  have HL := hid' (fun x hx => I64.of_wf (hl x hx))
  have hn' : l.length ≤ 9223372036854775807 := hn
  have HR := hid' hr
  clear hl hn hr
  go_enter Try.func10, Try.ntmps10
  go_wp2_with fail
  refine (law09_speaks w).mono ?_
  rintro e w1 ⟨rfl, hB⟩
  have HR1 := hid' (HR.out.below hB)
  clear HR
  by_cases h1 : 200 < l.length
  · go_wp2
    all_goals (go_ret; exact ⟨rfl, hB⟩)
  go_wp2_with fail
  refine (clamp_All A c l _ HR1.out HL.out (by omega)).mono ?_
  rintro e w2 ⟨v, rfl, hown, hB2⟩
  have HB := hid' (bel_then hB hB2)
  obtain ⟨A1, c1, rfl, _, hc1, hr1⟩ := own_rd hown
  have HA := hid' hr1
  have HI := hid' (clAll_incr l)
  have HG := hid' (clAll_again l)
  have HX := hid' (show ∀ x ∈ clAll l, I64 x from clAll_I64 l HL.out)
  have hlen : (clAll l).length ≤ 200 := by have := clStep_len l (NEV, []); unfold clAll; simp at this; omega
  clear hown hB hB2 hr1 hc1
  generalize clAll l = xs at *
  go_wp2
  go_loopw [4] (fun v4 wr => ∃ k m : Nat, 1 ≤ k ∧ v4 = .int .i64 k ∧ w2.drewN m = wr) (fun v4 _ => xs.length - (intOf v4).toNat)
  case atStart => exact ⟨1, 0, Nat.le_refl _, rfl, rfl⟩
  case round =>
    obtain ⟨k, m, hk, rfl, rfl⟩ := hrel
    by_cases hlt : k < xs.length
    · obtain ⟨j, rfl⟩ : ∃ j, k = j + 1 := ⟨k - 1, by omega⟩
      obtain ⟨ad, x, rfl, hx, hcx⟩ := Rd.at_ HA.out (j := j) (by omega)
      obtain ⟨ad', y, e', hy, hcy⟩ := Rd.at_ HA.out (j := j + 1) hlt
      cases e'
      have hxy : x < y := clIncr_at xs NEV HI.out j x y hx hy
      clear hx hy
      have hd : decide (y ≤ x) = false := by rw [decide_eq_false_iff_not]; omega
      have hcy2 : w2.cell? ⟨ad.block, ad.off + (j + 1), none⟩ = some (.int .i64 y) := by simpa [Addr.add] using hcy
      have hw1 : IntKind.i64.wrap (j : Int) = (j : Int) := IntWalk.i64_in _ (by omega)
      have hw2 : (0 : Int) ≤ (j : Int) := by omega
      have hw3 : j < xs.length := by omega
      have hw4 : (0 : Int) ≤ (j : Int) + 1 := by omega
      have hw5 : (j : Int) + 1 < (xs.length : Int) := by omega
      have hw6 : ((j : Int) + 1).toNat = j + 1 := by omega
      go_wp2
      go_quiet (fail)
      clear hw1 hw2 hw3 hw4 hw5 hw6
      go_wp2
      go_roundw
      case rel => exact ⟨j + 1 + 1, _, by omega, by go_num, rfl⟩
      case measure => simp [intOf]; omega
    · go_wp2_with fail
      refine (clamp_All A1 c1 xs _ (HA.out.below (bel_drewN (bel_refl _) m)) HX.out (by omega)).mono ?_
      rintro e w3 ⟨v, rfl, hown, hB3⟩
      rw [HG.out] at hown
      have HB' := hid' (bel_then (bel_drewN HB.out m) hB3)
      obtain ⟨A2, c2, rfl, _, hc2, hr2⟩ := own_rd hown
      have HA2 := hid' (HA.out.below (bel_then (bel_drewN (bel_refl _) m) hB3))
      clear hown
      go_wp2_with fail
      refine (ref_Same A2 A1 c2 c1 xs xs _ hr2 HA2.out (by omega) (by omega)).mono ?_
      rintro e w4 ⟨rfl, q, rfl⟩
      rw [show decide (xs = xs) = true from decide_eq_true rfl]
      clear hr2 hB3
      go_wp2
      go_ret
      exact ⟨rfl, bel_drewN HB'.out q⟩

end Go.Proofs.Ytoajlogbdkinkaa
