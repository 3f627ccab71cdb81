
/- How far time has come never goes back, and goes no less far where fewer of a hundred count, walked. No condition. -/
import Derived.Test.YtcgonoepndlofaaLawPercent
import Derived.Test.YtcgonoepndlofaaLawHistC
namespace Go.Proofs.Ytcgonoepndlofaa
set_option maxRecDepth 100000
set_option linter.unusedSimpArgs false
open Go.RowKit
set_option linter.unusedVariables false

theorem pLag_mono (q : List Int) {p p' : Int} (h0 : 0 ≤ p) (h : p ≤ p') (h1 : p' ≤ 100) (hq : ∀ x ∈ q, I64 x) : pLag q p ≤ pLag q p' := by
  obtain ⟨s1, s2⟩ := lst_spec (percP q p) q
  obtain ⟨t1, t2⟩ := lst_spec (percP q p') q
  unfold pLag
  cases hb : (lstOf (percP q p') q).2
  · -- nothing stands in the row
    have hq0 : q = [] := by
      cases q with
      | nil => rfl
      | cons a r =>
        exfalso
        obtain ⟨m, hm, hmax⟩ : ∃ m ∈ a :: r, ∀ y ∈ a :: r, y ≤ m := by
          have := lst_spec (fun _ => true) ((a :: r).map (fun x => -x))
          have hb2 : (lstOf (fun _ => true) ((a :: r).map (fun x => -x))).2 = true := by
            cases hc : (lstOf (fun _ => true) ((a :: r).map (fun x => -x))).2
            · have := (this.1 hc).2 (-a) (List.mem_map.2 ⟨a, List.mem_cons_self, rfl⟩); cases this
            · rfl
          obtain ⟨u1, _, u3⟩ := this.2 hb2
          obtain ⟨z, hz, e⟩ := List.mem_map.1 u1
          refine ⟨z, hz, fun y hy => ?_⟩
          have := u3 (-y) (List.mem_map.2 ⟨y, hy, rfl⟩) rfl
          omega
        have h2 := (t1 hb).2 m hm
        have h3 : belowL (a :: r) m = (a :: r).length := belowL_all hmax
        unfold percP at h2
        rw [h3] at h2
        have h4 : p' * ((a :: r).length : Int) ≤ 100 * ((a :: r).length : Int) := Int.mul_le_mul_of_nonneg_right h1 (by omega)
        have := of_decide_eq_false h2
        omega
    subst hq0
    exact Int.le_refl _
  · obtain ⟨u1, u2, u3⟩ := t2 hb
    have hP : percP q p (lstOf (percP q p') q).1 = true := by
      have h2 := of_decide_eq_true (show decide (p' * (q.length : Int) ≤ (belowL q (lstOf (percP q p') q).1 : Int) * 100) = true from u2)
      have h4 : p * (q.length : Int) ≤ p' * (q.length : Int) := Int.mul_le_mul_of_nonneg_right h (by omega)
      exact decide_eq_true (Int.le_trans h4 h2)
    cases hc : (lstOf (percP q p) q).2
    · have := (s1 hc).2 _ u1; rw [hP] at this; cases this
    · exact (s2 hc).2.2 _ u1 hP
theorem bAfter_anti (m : Int) {a b : Int} (h : a ≤ b) : bAfter m b ≤ bAfter m a := by unfold bAfter satSub; repeat' split <;> omega
theorem pN_wide (n : Nat) (p : Int) (h0 : 0 ≤ p) (h1 : p ≤ 100) (l : List Int) : pN l 100 n ≤ pN l p n := by
  induction l using list_rev_ind with
  | h0 => exact Int.le_refl _
  | h1 l x ih =>
    rw [pN_snoc, pN_snoc]
    have h2 := bAfter_anti (max (mostOf l) x) (pLag_mono (winL n (l ++ [x])) h0 h1 (by omega) (winL_I64 n _))
    omega
theorem pN_le (l : List Int) (x p : Int) (n : Nat) : pN l p n ≤ pN (l ++ [x]) p n := by rw [pN_snoc]; omega
/-- Two such ways side by side. -/
def PG2 (w : World) (B g rg rb g' rg' rb' : Nat) (v v' : Value) (p p' : Int) (n : Nat) (l l' : List Int) : Prop :=
  PG w B g rg rb v p n l ∧ PG w B g' rg' rb' v' p' n l' ∧ ∀ k, PF g rg rb v k → ¬ PF g' rg' rb' v' k
section
variable {w : World} {B g rg rb g' rg' rb' : Nat} {v v' : Value} {p p' : Int} {n : Nat} {l l' : List Int}
theorem PG2.swap (h : PG2 w B g rg rb g' rg' rb' v v' p p' n l l') : PG2 w B g' rg' rb' g rg rb v' v p' p n l' l := ⟨h.2.1, h.1, fun k h1 h2 => h.2.2 k h2 h1⟩
theorem PG2.below {w' : World} (h : PG2 w B g rg rb g' rg' rb' v v' p p' n l l') (hb : Below w.heap.size w w') : PG2 w' B g rg rb g' rg' rb' v v' p p' n l l' := ⟨h.1.below hb, h.2.1.below hb, h.2.2⟩
theorem PG2.seen (h : PG2 w B g rg rb g' rg' rb' v v' p p' n l l') (kind x : Int) (txt : ByteArray) (hx : I64 x) (hl : l.length < 9000) :
    Calls Try.prog 23 #[.pointer (some ⟨g, 0, none⟩), .agg #[.int .i64 kind, .int .i64 x, .string txt]] w fun e w' =>
      e = .returned (.tuple #[]) ∧ ∃ u, PG2 w' B g rg rb g' rg' rb' u v' p p' n (l ++ [x]) l' ∧ Mod (PF g rg rb v) w w' := by
  obtain ⟨h1, h2, h3⟩ := h
  refine (h1.seen kind x txt hx hl).mono ?_
  rintro e w' ⟨rfl, u, hG, hM, hu⟩
  have hb := h2.bound
  refine ⟨rfl, u, ⟨hG, h2.mod hM (fun k hk hk2 => h3 k hk2 hk), fun k hk hk2 => ?_⟩, hM⟩
  rcases hk with e | e | e | e
  · exact h3 k (.inl e) hk2
  · exact h3 k (.inr (.inl e)) hk2
  · exact h3 k (.inr (.inr (.inl e))) hk2
  · rcases hu with e2 | ⟨b, e2, hle⟩
    · exact h3 k (.inr (.inr (.inr (by rw [← e2]; exact e)))) hk2
    · rw [e] at e2; injection e2 with e2
      have := (hb.1 k hk2).2; omega
end
set_option maxHeartbeats 4000000 in
theorem percentWide (A : Option Addr) (c : Nat) (l : List Int) (part : Int) (w : World) (hr : Rd w A (l.map (.int .i64))) (hl : ∀ x ∈ l, (Lit.int .i64 x).wf = true) (hn : l.length ≤ maxLen) (hpa : (Lit.int .u8 part).wf = true) :
    Calls Try.prog 6 #[.slice A l.length c, .int .u8 part] w fun e w' => e = .returned (.bool true) ∧ Below w.heap.size w w' := by
  have hn' : l.length ≤ 9223372036854775807 := hn
  obtain ⟨hpa0, hpa1⟩ := wf_u8 hpa
  have HR := hid' hr
  have HL := hid' (fun x hx => I64.of_wf (hl x hx))
  clear hr hn hl hpa
  obtain ⟨P, hP⟩ : ∃ P : Nat, part % 101 = (P : Int) := ⟨(part % 101).toNat, by omega⟩
  have hPb : P ≤ 100 := by omega
  go_enter Try.func6, Try.ntmps6
  go_wp2_with fail
  refine (law12_speaks w).mono ?_
  rintro e w1 ⟨rfl, hB⟩
  by_cases h2 : 60 < l.length
  · go_wp2
    go_ret
    exact ⟨rfl, hB⟩
  go_wp2_with fail
  refine (PG.new_ 100 60 w1 (by decide) (by decide) (by decide) (by decide)).mono ?_
  rintro e w2 ⟨g, rg, rb, rfl, hG, hB2⟩
  have HG := hid' hG
  have HB := hid' hB
  have HB2 := hid' hB2
  have HR1 := hid' (HR.out.below hB)
  clear hG hB hB2 HR
  go_wp2_with fail
  refine (PG.new_ (P : Int) 60 w2 (by omega) (by omega) (by decide) (by decide)).mono ?_
  rintro e w3 ⟨g', rg', rb', rfl, hG', hB3⟩
  have HGG := hid' (show PG2 w3 w1.heap.size g rg rb g' rg' rb' (.slice none 0 0) (.slice none 0 0) 100 (P : Int) 60 [] [] from ⟨HG.out.below hB3, by
      obtain ⟨bs, a2, s2, a1, s1, ⟨c1, c2, c3, c4, c5, c6, c7, c8⟩, h2, h3, h4, h5, h6, h7, h8, h9, h10, h11, h12, h13⟩ := hG'
      have hle := HB2.out.size
      exact ⟨bs, a2, s2, a1, s1, ⟨c1, c2, c3, own_lower c4 hle, c5, c6, Nat.le_trans hle c7, c8⟩, h2, h3, h4, h5, h6, h7, h8, h9, h10, Nat.le_trans hle h11, Nat.le_trans hle h12, Nat.le_trans hle h13⟩, fun k hk hk2 => by
      have h5 := (HG.out.bound.1 k hk).2
      have h6 := (hG'.bound.1 k hk2).1
      omega⟩)
  have HB3 := hid' (bel_then HB2.out hB3)
  have HNV := hid' (show (NEV : Int) = -9223372036854775808 from rfl)
  clear hG' hB3
  go_wp2
  go_loopw [7, 22] (fun v7 v22 wr => ∃ (k : Nat) (v v' : Value), k ≤ l.length ∧ v22 = .int .i64 k ∧ v7 = .int .i64 (pN (l.take k) 100 60) ∧ PG2 wr w1.heap.size g rg rb g' rg' rb' v v' 100 (P : Int) 60 (l.take k) (l.take k) ∧ Below w1.heap.size w1 wr) (fun _ v22 _ => l.length - (intOf v22).toNat)
  case atStart => exact ⟨0, _, _, by omega, rfl, rfl, HGG.out, HB3.out⟩
  case round =>
    obtain ⟨k, v, v', hk, rfl, rfl, hG, hBr⟩ := hrel
    by_cases hlt : k < l.length
    · obtain ⟨ad, x, rfl, hx, hcx⟩ := Rd.at_ (HR1.out.below hBr) hlt
      have hxI := HL.out x (mem_of_get hx)
      have HT := hid' (take_snoc' hx)
      have HG1 := hid' hG
      have hlk : (l.take k).length < 9000 := by rw [List.length_take]; omega
      clear hG hx
      obtain ⟨q, hq⟩ : ∃ q, q = l.take k := ⟨_, rfl⟩
      rw [← hq] at HG1 HT hlk ⊢
      obtain ⟨q1, hq1⟩ : ∃ q1, q1 = q ++ [x] := ⟨_, rfl⟩
      rw [← hq1] at HT
      have HQ1 := hid' hq1
      have F1 : ¬ pN q1 100 60 < pN q 100 60 := by have := pN_le q x 100 60; rw [← hq1] at this; omega
      have F2 : ¬ pLag (winL 60 q1) 100 < pLag (winL 60 q1) (P : Int) := by have := pLag_mono (winL 60 q1) (p := (P : Int)) (p' := 100) (by omega) (by omega) (by omega) (winL_I64 60 _); omega
      have F3 : ¬ pN q1 (P : Int) 60 < pN q1 100 60 := by have := pN_wide 60 (P : Int) (by omega) (by omega) q1; omega
      clear hq hq1
      obtain ⟨a0, ha0⟩ : ∃ a, a = pN q 100 60 := ⟨_, rfl⟩
      obtain ⟨a1, ha1⟩ : ∃ a, a = pN q1 100 60 := ⟨_, rfl⟩
      obtain ⟨a2, ha2⟩ : ∃ a, a = pN q1 (P : Int) 60 := ⟨_, rfl⟩
      obtain ⟨b1, hb1⟩ : ∃ a, a = pLag (winL 60 q1) 100 := ⟨_, rfl⟩
      obtain ⟨b2, hb2⟩ : ∃ a, a = pLag (winL 60 q1) (P : Int) := ⟨_, rfl⟩
      rw [← ha0, ← ha1] at F1
      rw [← hb1, ← hb2] at F2
      rw [← ha1, ← ha2] at F3
      have HA := hid' (And.intro ha0 (And.intro ha1 (And.intro ha2 (And.intro hb1 hb2))))
      rw [← ha0]
      clear ha0 ha1 ha2 hb1 hb2
      go_wp2_with fail
      refine (HG1.out.seen _ x _ hxI hlk).mono ?_
      rintro e w4 ⟨rfl, u, hG4, hM4⟩
      have HG4 := hid' hG4
      have HB4 := hid' (bel_mod hBr hM4 (fun i hi hp => by have := (HG1.out.1.bound.1 i hp).1; omega))
      clear hG4 hM4
      go_wp2_with fail
      refine (HG4.out.swap.seen _ x _ hxI hlk).mono ?_
      rintro e w5 ⟨rfl, u', hG5, hM5⟩
      rw [← HQ1.out] at hG5
      have HG5 := hid' hG5.swap
      have HB5 := hid' (bel_mod HB4.out hM5 (fun i hi hp => by have := (HG4.out.2.1.bound.1 i hp).1; omega))
      clear hG5 hM5
      go_wp2_with fail
      refine (HG5.out.1.now).mono ?_
      rintro e w6 ⟨rfl, rfl⟩
      rw [← HA.out.2.1]
      go_wp2_with fail
      refine (HG5.out.2.1.lag).mono ?_
      rintro e w6 ⟨rfl, hB6⟩
      rw [← HA.out.2.2.2.2]
      have HG6 := hid' (HG5.out.below hB6)
      have HB6 := hid' (bel_then HB5.out hB6)
      go_wp2_with fail
      refine (HG6.out.1.lag).mono ?_
      rintro e w7 ⟨rfl, hB7⟩
      rw [← HA.out.2.2.2.1]
      have HG7 := hid' (HG6.out.below hB7)
      have HB7 := hid' (bel_then HB6.out hB7)
      go_wp2_with fail
      refine (HG7.out.2.1.now).mono ?_
      rintro e w8 ⟨rfl, rfl⟩
      rw [← HA.out.2.2.1]
      go_wp2_with fail
      refine (HG7.out.1.now).mono ?_
      rintro e w8 ⟨rfl, rfl⟩
      rw [← HA.out.2.1]
      go_wp2_with fail
      all_goals first | (exfalso; omega) | skip
      refine (HG7.out.1.now).mono ?_
      rintro e w8 ⟨rfl, rfl⟩
      rw [← HA.out.2.1]
      go_wp2
      go_roundw
      case rel => exact ⟨k + 1, u, u', by omega, by go_num, by rw [HT.out, ← HA.out.2.1], by rw [HT.out]; exact HG7.out, HB7.out⟩
      case measure => first | (simp [intOf]; done) | (simp [intOf]; omega)
    · go_wp2
      go_ret
      exact ⟨rfl, bel_then HB.out hBr⟩
end Go.Proofs.Ytcgonoepndlofaa
