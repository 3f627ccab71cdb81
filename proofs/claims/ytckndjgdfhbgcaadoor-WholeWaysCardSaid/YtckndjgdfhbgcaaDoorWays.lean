
/- Three ways beside each other: the law, walked. No condition but the free tables of signs. -/
import Derived.Test.YtckndjgdfhbgcaaDoorLawPercentC
import Derived.Test.YtckndjgdfhbgcaaDoorLawPunct
import Derived.Test.YtckndjgdfhbgcaaDoorTabs
namespace Go.Proofs.YtckndjgdfhbgcaaDoor
set_option maxRecDepth 100000
set_option linter.unusedSimpArgs false
open Go.RowKit
set_option linter.unusedVariables false
set_option linter.unusedSimpArgs false

/-! ### the plain law -/
def ordS (a : Bool × Int) (t : Int) : Bool × Int := (a.1 && decide (a.2 ≤ t), max a.2 t)
def ordB (l : List Int) : Bool := (l.foldl ordS (true, NEV)).1
theorem ord_most (l : List Int) : (l.foldl ordS (true, NEV)).2 = mostOf l := by
  have : ∀ (l : List Int) (a : Bool × Int), (l.foldl ordS a).2 = l.foldl max a.2 := by
    intro l
    induction l with
    | nil => intro a; rfl
    | cons x l ih => intro a; rw [List.foldl_cons, List.foldl_cons, ih]; rfl
  exact this l _
theorem ordB_snoc (l : List Int) (t : Int) : ordB (l ++ [t]) = (ordB l && decide (mostOf l ≤ t)) := by
  unfold ordB
  rw [List.foldl_append, ← ord_most]
  rfl
theorem mostOf_ge {l : List Int} {x : Int} (h : x ∈ l) : x ≤ mostOf l := by
  have h1 : ∀ (l : List Int) (a : Int), a ≤ l.foldl max a := by
    intro l
    induction l with
    | nil => intro a; exact Int.le_refl _
    | cons y l ih => intro a; rw [List.foldl_cons]; have := ih (max a y); omega
  have h2 : ∀ (l : List Int) (a : Int), x ∈ l → x ≤ l.foldl max a := by
    intro l
    induction l with
    | nil => intro a h; cases h
    | cons y l ih =>
      intro a h
      rw [List.foldl_cons]
      rcases List.mem_cons.1 h with rfl | h
      · have := h1 l (max a x); omega
      · exact ih _ h
  exact h2 l NEV h
theorem satSub_pos {a b : Int} (h : b ≤ a) : 0 ≤ satSub a b := by unfold satSub; repeat' split <;> omega
theorem satSub_self (a : Int) : satSub a a = 0 := by unfold satSub; repeat' split <;> omega
theorem lag_pos (l : List Int) : ∀ y ∈ lagsOf l, 0 ≤ y := by
  intro y hy
  obtain ⟨i, hi⟩ := List.getElem?_of_mem hy
  have hil : i < l.length := by rw [← lagsOf_len]; exact (List.getElem?_eq_some_iff.1 hi).1
  have hx := List.getElem?_eq_getElem hil
  rw [lagsOf_get hx] at hi
  rw [← Option.some.inj hi]
  apply satSub_pos
  apply mostOf_ge
  rw [List.take_add_one, hx]
  exact List.mem_append_right _ (by simp)
theorem ord_zero (l : List Int) : ordB l = true → ∀ (i : Nat) (x : Int), l[i]? = some x → mostOf (l.take i) ≤ x := by
  induction l using list_rev_ind with
  | h0 => intro _ i x h; simp at h
  | h1 l t ih =>
    intro ho i x hx
    rw [ordB_snoc, Bool.and_eq_true] at ho
    by_cases hi : i < l.length
    · rw [List.getElem?_append_left hi] at hx
      rw [List.take_append_of_le_length (by omega)]
      exact ih ho.1 i x hx
    · have hil : i < (l ++ [t]).length := (List.getElem?_eq_some_iff.1 hx).1
      rw [List.length_append, List.length_singleton] at hil
      have hie : i = l.length := by omega
      subst hie
      have hxt : x = t := by simpa using hx.symm
      subst hxt
      rw [List.take_left]
      simpa using ho.2
theorem lag_zero {l : List Int} (ho : ordB l = true) : ∀ y ∈ lagsOf l, y = 0 := by
  intro y hy
  obtain ⟨i, hi⟩ := List.getElem?_of_mem hy
  have hil : i < l.length := by rw [← lagsOf_len]; exact (List.getElem?_eq_some_iff.1 hi).1
  have hx := List.getElem?_eq_getElem hil
  rw [lagsOf_get hx] at hi
  rw [← Option.some.inj hi]
  have h1 := ord_zero l ho i _ hx
  have h2 : mostOf (l.take (i + 1)) = l[i] := by
    rw [List.take_add_one, hx, Option.toList_some, mostOf_snoc]; omega
  rw [h2, satSub_self]
theorem lst_fst (P : Int → Bool) (q : List Int) : (lstOf P q).1 = 0 ∨ (lstOf P q).1 ∈ q := by
  obtain ⟨h1, h2⟩ := lst_spec P q
  cases h : (lstOf P q).2 with
  | false => left; rw [(h1 h).1]
  | true => right; exact (h2 h).1
theorem pLag_pos (n : Nat) (l : List Int) (p : Int) : 0 ≤ pLag (winL n l) p := by
  rcases lst_fst (percP (winL n l) p) (winL n l) with h | h
  · show 0 ≤ (lstOf _ _).1; rw [h]; omega
  · exact lag_pos l _ (List.mem_of_mem_drop h)
theorem pLag_zero {n : Nat} {l : List Int} {p : Int} (ho : ordB l = true) : pLag (winL n l) p = 0 := by
  rcases lst_fst (percP (winL n l) p) (winL n l) with h | h
  · exact h
  · exact lag_zero ho _ (List.mem_of_mem_drop h)
theorem pN_now (n : Nat) (p : Int) (l : List Int) : pN l p n ≤ nowOf l 0 := by
  induction l using list_rev_ind with
  | h0 => exact Int.le_refl _
  | h1 l x ih =>
    rw [pN_snoc, ← nowOf_snoc]
    have := bAfter_anti (max (mostOf l) x) (pLag_pos n (l ++ [x]) p)
    omega
theorem pN_ord (n : Nat) (p : Int) (l : List Int) : ordB l = true → pN l p n = nowOf l 0 := by
  induction l using list_rev_ind with
  | h0 => intro _; rfl
  | h1 l x ih =>
    intro ho
    have ho2 := ho
    rw [ordB_snoc, Bool.and_eq_true] at ho2
    rw [pN_snoc, ← nowOf_snoc, ih ho2.1, pLag_zero ho]
theorem now_most {l : List Int} (h : ∀ x ∈ l, I64 x) : nowOf l 0 ≤ mostOf l := by
  have hI := mostOf_I64 l h
  unfold nowOf
  split
  · rename_i h0; subst h0; exact Int.le_refl _
  · unfold bAfter satSub
    unfold I64 at hI
    repeat' split
    all_goals omega
/-! ### the walk -/
def WSt (w0 W : World) (gp gb B g rg rb : Nat) (v : Value) (p : Int) (n : Nat) (lp lb lq : List Int) : Prop :=
  PuGen W gp 33 (mostOf lp) ∧ BGen W gb 0 (nowOf lb 0) (mostOf lb) ∧ PG W B g rg rb v p n lq ∧ gp < B ∧ gb < B ∧ gp ≠ gb ∧ w0.heap.size ≤ gp ∧ w0.heap.size ≤ gb ∧ Below w0.heap.size w0 W
section
variable {w0 W : World} {gp gb B g rg rb : Nat} {v : Value} {p : Int} {n : Nat} {lp lb lq : List Int}
theorem WSt.seenP (h : WSt w0 W gp gb B g rg rb v p n lp lb lq) (t : Int) (ht : I64 t) (hT : U8T w0) :
    Calls Tryd.prog 10 #[.pointer (some ⟨gp, 0, none⟩), .agg #[.int .i64 2, .int .i64 t, .string ⟨#[]⟩]] W fun e w' => e = .returned (.tuple #[]) ∧ WSt w0 w' gp gb B g rg rb v p n (lp ++ [t]) lb lq := by
  obtain ⟨h1, h2, h3, h4, h5, h6, h7, h8, h9⟩ := h
  refine (punct_Seen gp 33 (mostOf lp) 2 t ⟨#[]⟩ W h1 (by decide) (by unfold I64; decide) ht (hT.below h9)).mono ?_
  rintro e w' ⟨rfl, hG, hM⟩
  rw [if_pos (by simp [pSays]), ← mostOf_snoc] at hG
  exact ⟨rfl, hG, h2.mod hM (fun e => h6 e.symm), h3.mod hM (fun k hk e => by have := (h3.bound.1 k hk).1; omega), h4, h5, h6, h7, h8, bel_mod h9 hM (fun i hi e => by omega)⟩
theorem WSt.seenB (h : WSt w0 W gp gb B g rg rb v p n lp lb lq) (t : Int) (ht : I64 t) :
    Calls Tryd.prog 15 #[.pointer (some ⟨gb, 0, none⟩), .agg #[.int .i64 0, .int .i64 t, .string ⟨#[]⟩]] W fun e w' => e = .returned (.tuple #[]) ∧ WSt w0 w' gp gb B g rg rb v p n lp (lb ++ [t]) lq := by
  obtain ⟨h1, h2, h3, h4, h5, h6, h7, h8, h9⟩ := h
  refine (bounded_Seen gb 0 _ _ 0 t ⟨#[]⟩ W h2 ht).mono ?_
  rintro e w' ⟨rfl, hG, hM⟩
  rw [nowOf_snoc, ← mostOf_snoc] at hG
  exact ⟨rfl, h1.mod hM (fun e => h6 e), hG, h3.mod hM (fun k hk e => by have := (h3.bound.1 k hk).1; omega), h4, h5, h6, h7, h8, bel_mod h9 hM (fun i hi e => by omega)⟩
theorem WSt.seenQ (h : WSt w0 W gp gb B g rg rb v p n lp lb lq) (t : Int) (ht : I64 t) (hl : lq.length < 9000) (hB : w0.heap.size ≤ B) :
    Calls Tryd.prog 16 #[.pointer (some ⟨g, 0, none⟩), .agg #[.int .i64 0, .int .i64 t, .string ⟨#[]⟩]] W fun e w' => e = .returned (.tuple #[]) ∧ ∃ v', WSt w0 w' gp gb B g rg rb v' p n lp lb (lq ++ [t]) := by
  obtain ⟨h1, h2, h3, h4, h5, h6, h7, h8, h9⟩ := h
  refine (h3.seen 0 t ⟨#[]⟩ ht hl).mono ?_
  rintro e w' ⟨rfl, v', hG, hM, -⟩
  have hb := h3.bound.1
  exact ⟨rfl, v', h1.mod hM (fun hk => by have := (hb _ hk).1; omega), h2.mod hM (fun hk => by have := (hb _ hk).1; omega), hG, h4, h5, h6, h7, h8, bel_mod h9 hM (fun i hi hk => by have := (hb _ hk).1; omega)⟩
end
set_option maxHeartbeats 8000000 in
theorem wholeWays (A : Option Addr) (c : Nat) (l : List Int) (window part : Int) (w : World) (hr : Rd w A (l.map (.int .i64))) (hl : ∀ x ∈ l, (Lit.int .i64 x).wf = true) (hn : l.length ≤ maxLen) (hwi : (Lit.int .u8 window).wf = true) (hpa : (Lit.int .u8 part).wf = true) (hT : U8T w) :
    Calls Tryd.prog 5 #[.slice A l.length c, .int .u8 window, .int .u8 part] w fun e w' => e = .returned (.bool true) ∧ Below w.heap.size w w' := by
  have hn' : l.length ≤ 9223372036854775807 := hn
  obtain ⟨hw0, hw1⟩ := wf_u8 hwi
  obtain ⟨hp0, hp1⟩ := wf_u8 hpa
  obtain ⟨P, hP⟩ : ∃ P : Nat, part % 101 = (P : Int) := ⟨(part % 101).toNat, by omega⟩
  obtain ⟨Q, hQ⟩ : ∃ Q : Nat, window % 60 = (Q : Int) := ⟨(window % 60).toNat, by omega⟩
  obtain ⟨n, hnq⟩ : ∃ n : Nat, n = 1 + Q := ⟨_, rfl⟩
  have z1 : (1 : Int) + (Q : Int) = (n : Int) := by omega
  have hPb : P ≤ 100 := by omega
  have hnb : n ≤ 60 ∧ 1 ≤ n := by omega
  clear hnq
  have HR := hid' hr
  have HI := hid' (show ∀ x ∈ l, I64 x from fun x hx => I64.of_wf (hl x hx))
  have HT := hid' hT
  clear hr hl hn hwi hpa hT
  by_cases hbig : 60 < l.length
  · go_enter Tryd.func5, Tryd.ntmps5
    go_wp2_with fail
    refine (punct_New 33 w).mono ?_
    rintro e w1 ⟨g0, rfl, hg, hG, hB1⟩
    go_wp2_with (first | (go_at_call 12; refine (punct_Sign g0 33 NEV w1 hG).mono ?_; rintro e w' ⟨rfl, rfl⟩) | (go_at_call 11; refine (punct_Now g0 33 NEV w1 hG).mono ?_; rintro e w' ⟨rfl, rfl⟩; unfold NEV))
    go_ret
    exact ⟨rfl, hB1⟩
  go_enter Tryd.func5, Tryd.ntmps5
  go_wp2_with fail
  refine (punct_New 33 w).mono ?_
  rintro e w1 ⟨g0, rfl, hg, hG, hB1⟩
  go_wp2_with (first | (go_at_call 12; refine (punct_Sign g0 33 NEV w1 hG).mono ?_; rintro e w' ⟨rfl, rfl⟩) | (go_at_call 11; refine (punct_Now g0 33 NEV w1 hG).mono ?_; rintro e w' ⟨rfl, rfl⟩; unfold NEV))
  refine (punct_New 33 w1).mono ?_
  rintro e w2 ⟨gp, rfl, hgp, hGp, hB2⟩
  go_wp2_with fail
  refine (bounded_New 0 w2 (by unfold I64; decide)).mono ?_
  rintro e w3 ⟨gb, rfl, hgb, hGb, hB3⟩
  go_wp2_with fail
  refine (PG.new_ (P : Int) n w3 (by omega) (by omega) (by omega) hnb.2).mono ?_
  rintro e w4 ⟨g, rg, rb, rfl, hGq, hB4⟩
  have hW : WSt w w4 gp gb w3.heap.size g rg rb (.slice none 0 0) P n [] [] [] := by
    have h2 := hGp.lt
    have hGb2 := hGb
    obtain ⟨a1, s1, a2, s2, hbk, _⟩ := hGb
    have h3 := hbk.lt
    have hs1 := hB1.size
    have hs2 := hB2.size
    have hs3 := hB3.size
    exact ⟨(hGp.below hB3).below hB4, hGb2.mod (Mod.of_below (S := fun _ => False) hB4) (fun h => h), hGq, by omega, h3, by omega, by omega, by omega, bel_then (bel_then (bel_then hB1 hB2) hB3) hB4⟩
  have hBw : w.heap.size ≤ w3.heap.size := by have := hB1.size; have := hB2.size; have := hB3.size; omega
  have HW := hid' hW
  generalize w3.heap.size = B at *
  clear hW hGp hGb hGq hB2 hB3 hB4 hgp hgb hG hg hB1
  go_wp2_with fail
  go_loopw [11, 12, 43] (fun v11 v12 v43 wr => ∃ (k : Nat) (v : Value), k ≤ l.length ∧ v43 = .int .i64 k ∧ v11 = .int .i64 (mostOf (l.take k)) ∧ v12 = .bool (ordB (l.take k)) ∧ WSt w wr gp gb B g rg rb v P n (l.take k) (l.take k) (l.take k)) (fun _ _ v43 _ => l.length - (intOf v43).toNat)
  case atStart => exact ⟨0, _, Nat.zero_le _, rfl, rfl, rfl, HW.out⟩
  case round =>
    obtain ⟨k, v, hk, rfl, rfl, rfl, hS⟩ := hrel
    have HS := hid' hS
    by_cases hlt : k < l.length
    · obtain ⟨ad, x, rfl, hx, hcell⟩ := (HR.out.below hS.2.2.2.2.2.2.2.2).at_ hlt
      have hxI := HI.out x (List.mem_of_getElem? hx)
      have htk := take_snoc' hx
      have htl : (l.take k).length < 9000 := by rw [List.length_take]; omega
      obtain ⟨q, hq⟩ : ∃ q, q = l.take k := ⟨_, rfl⟩
      rw [← hq] at HS htk htl ⊢
      have hqI : ∀ y ∈ q ++ [x], I64 y := by
        intro y hy
        rcases List.mem_append.1 hy with h | h
        · rw [hq] at h; exact HI.out y (List.mem_of_mem_take h)
        · rw [List.mem_singleton] at h; subst h; exact hxI
      have HS1 := hid' (HS.out.seenP x hxI HT.out)
      have HO := hid' (ordB_snoc q x)
      have HMM := hid' (mostOf_snoc q x)
      have HA1 := hid' (pN_now n (P : Int) (q ++ [x]))
      have HA2 := hid' (pN_ord n (P : Int) (q ++ [x]))
      have HA3 := hid' (now_most hqI)
      have HTK := hid' htk
      have HXI := hid' hxI
      have hmI := mostOf_I64 _ hqI
      clear hS hx htk hq hqI hxI
      go_wp2_with fail
      refine HS1.out.mono ?_
      rintro e wa ⟨rfl, hSa⟩
      go_wp2_with fail
      refine (hSa.seenB x HXI.out).mono ?_
      rintro e wb ⟨rfl, hSb⟩
      go_wp2_with fail
      refine (hSb.seenQ x HXI.out htl hBw).mono ?_
      rintro e wc ⟨rfl, v', hSc⟩
      have HSc := hid' hSc
      have hP := hid' (punct_Now gp 33 _ wc hSc.1)
      have hBo := hid' (bounded_Now gb 0 _ _ wc hSc.2.1)
      have hQo := hid' (PG.now hSc.2.2.1)
      obtain ⟨m, hm⟩ : ∃ m, m = mostOf q := ⟨_, rfl⟩
      obtain ⟨o, ho⟩ : ∃ o, o = ordB q := ⟨_, rfl⟩
      obtain ⟨M, hM⟩ : ∃ M, M = mostOf (q ++ [x]) := ⟨_, rfl⟩
      obtain ⟨nb, hnb2⟩ : ∃ nb, nb = nowOf (q ++ [x]) 0 := ⟨_, rfl⟩
      obtain ⟨nq, hnq⟩ : ∃ nq, nq = pN (q ++ [x]) (P : Int) n := ⟨_, rfl⟩
      rw [← hM] at hP HA3 HMM
      rw [← hnb2] at hBo HA3 HA1 HA2
      rw [← hnq] at hQo HA1 HA2
      rw [← hm] at HMM HO
      rw [← ho] at HO
      rw [← hm, ← ho]
      have hmx : max m x = M := HMM.out.symm
      have f1 : decide (nb < nq) = false := by rw [decide_eq_false_iff_not]; have := HA1.out; omega
      have f2 : decide (M < nb) = false := by rw [decide_eq_false_iff_not]; have := HA3.out; omega
      have HMr := hid' hM
      clear hSa hSb hSc HS HS1 hm ho hM hnb2 hnq hmI
      cases o with
      | false =>
        go_wp2_with (first | (go_at_call 11; refine hP.out.mono ?_; rintro e w' ⟨rfl, rfl⟩) | (go_at_call 18; refine hBo.out.mono ?_; rintro e w' ⟨rfl, rfl⟩) | (go_at_call 17; refine hQo.out.mono ?_; rintro e w' ⟨rfl, rfl⟩))
        go_roundw
        case rel => exact ⟨k + 1, v', by omega, by go_num, by rw [HTK.out, ← HMr.out], by rw [HTK.out, HO.out]; rfl, by rw [HTK.out]; exact HSc.out⟩
        case measure => first | (simp [intOf]; done) | (simp [intOf]; omega)
      | true =>
        by_cases hle : m ≤ x
        · have hoo : ordB (q ++ [x]) = true := by rw [HO.out]; simp [hle]
          have heq := HA2.out hoo
          subst heq
          have HOO := hid' hoo
          clear hoo f1
          go_wp2_with (first | (go_at_call 11; refine hP.out.mono ?_; rintro e w' ⟨rfl, rfl⟩) | (go_at_call 18; refine hBo.out.mono ?_; rintro e w' ⟨rfl, rfl⟩) | (go_at_call 17; refine hQo.out.mono ?_; rintro e w' ⟨rfl, rfl⟩))
          go_roundw
          case rel => exact ⟨k + 1, v', by omega, by go_num, by rw [HTK.out, ← HMr.out], by rw [HTK.out, HOO.out], by rw [HTK.out]; exact HSc.out⟩
          case measure => first | (simp [intOf]; done) | (simp [intOf]; omega)
        · have HOO := hid' (show ordB (q ++ [x]) = false by rw [HO.out]; simp [hle])
          have hle2 : decide (m ≤ x) = false := by rw [decide_eq_false_iff_not]; exact hle
          go_wp2_with (first | (go_at_call 11; refine hP.out.mono ?_; rintro e w' ⟨rfl, rfl⟩) | (go_at_call 18; refine hBo.out.mono ?_; rintro e w' ⟨rfl, rfl⟩) | (go_at_call 17; refine hQo.out.mono ?_; rintro e w' ⟨rfl, rfl⟩))
          go_roundw
          case rel => exact ⟨k + 1, v', by omega, by go_num, by rw [HTK.out, ← HMr.out], by rw [HTK.out, HOO.out], by rw [HTK.out]; exact HSc.out⟩
          case measure => first | (simp [intOf]; done) | (simp [intOf]; omega)
    · obtain rfl : k = l.length := by omega
      clear hS
      go_wp2
      go_ret
      exact ⟨rfl, HS.out.2.2.2.2.2.2.2.2⟩
end Go.Proofs.YtckndjgdfhbgcaaDoor
