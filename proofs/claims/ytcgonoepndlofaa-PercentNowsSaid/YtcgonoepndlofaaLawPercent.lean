
/- The laws of layer 12 (percent), walked. No condition. -/
import Derived.Test.YtcgonoepndlofaaRef12
import Derived.Test.YtcgonoepndlofaaCells
namespace Go.Proofs.Ytcgonoepndlofaa
set_option maxRecDepth 100000
set_option linter.unusedSimpArgs false
open Go.RowKit
set_option linter.unusedVariables false

def pN (l : List Int) (p : Int) (n : Nat) : Int := pNow l p n l.length
theorem pNow_app (l r : List Int) (p : Int) (n : Nat) : ∀ i, i ≤ l.length → pNow (l ++ r) p n i = pNow l p n i
  | 0, _ => rfl
  | i + 1, h => by
    rw [pNow, pNow, pNow_app l r p n i (by omega), List.take_append_of_le_length h]
theorem pN_snoc (l : List Int) (x p : Int) (n : Nat) : pN (l ++ [x]) p n = max (pN l p n) (bAfter (max (mostOf l) x) (pLag (winL n (l ++ [x])) p)) := by
  unfold pN
  rw [List.length_append, List.length_singleton, pNow, pNow_app l [x] p n l.length (Nat.le_refl _), List.take_of_length_le (by simp), mostOf_snoc]
theorem pN_I64 (l : List Int) (p : Int) (n : Nat) : I64 (pN l p n) := pNow_I64 _ _ _ _
def PG (w : World) (B g rg rb : Nat) (v : Value) (p : Int) (n : Nat) (l : List Int) : Prop := PGen w B g rg rb v p n (winL n l) (pN l p n) (mostOf l)
section
variable {w w' : World} {B g rg rb : Nat} {v : Value} {p : Int} {n : Nat} {l : List Int}
theorem PG.seen (h : PG w B g rg rb v p n l) (kind x : Int) (txt : ByteArray) (hx : I64 x) (hl : l.length < 9000) :
    Calls Try.prog 23 #[.pointer (some ⟨g, 0, none⟩), .agg #[.int .i64 kind, .int .i64 x, .string txt]] w fun e w' =>
      e = .returned (.tuple #[]) ∧ ∃ v', PG w' B g rg rb v' p n (l ++ [x]) ∧ Mod (PF g rg rb v) w w' ∧ (v'.ownBlock = v.ownBlock ∨ ∃ b, v'.ownBlock = some b ∧ w.heap.size ≤ b) := by
  have hb := h.bound
  have := percent_Seen h kind x txt hx (by rw [winL_len]; omega)
  rw [← winL_snoc n l x hb.2.2.2.2, ← pN_snoc, ← mostOf_snoc] at this
  exact this
theorem PG.lag (h : PG w B g rg rb v p n l) : Calls Try.prog 24 #[.pointer (some ⟨g, 0, none⟩)] w fun e w' => e = .returned (.int .i64 (pLag (winL n l) p)) ∧ Below w.heap.size w w' := percent_Lag h
theorem PG.now (h : PG w B g rg rb v p n l) : Calls Try.prog 26 #[.pointer (some ⟨g, 0, none⟩)] w fun e w' => e = .returned (.int .i64 (pN l p n)) ∧ w = w' := percent_Now h
theorem PG.below (h : PG w B g rg rb v p n l) (hb : Below w.heap.size w w') : PG w' B g rg rb v p n l := PGen.below h hb
theorem PG.mod {S : Nat → Prop} (h : PG w B g rg rb v p n l) (hm : Mod S w w') (hs : ∀ k, PF g rg rb v k → ¬ S k) : PG w' B g rg rb v p n l := PGen.mod h hm hs
end
theorem PG.new_ (p : Int) (n : Nat) (w : World) (hp0 : 0 ≤ p) (hp1 : p ≤ 100) (hw : n ≤ 5000) (hw1 : 1 ≤ n) :
    Calls Try.prog 22 #[.int .i64 p, .int .i64 (n : Int)] w fun e w' => ∃ g rg rb, e = .returned (.pointer (some ⟨g, 0, none⟩)) ∧ PG w' w.heap.size g rg rb (.slice none 0 0) p n [] ∧ Below w.heap.size w w' := by
  have := percent_New p (n : Int) w hp0 hp1 (by omega)
  rw [show (max (n : Int) 1).toNat = n by omega] at this
  unfold PG
  rw [show winL n [] = [] by unfold winL lagsOf; simp]
  exact this
theorem litRd (w : World) : Rd (w.alloc (.cells #[.int .i64 10, .int .i64 8, .int .i64 11] 3)) (some ⟨w.heap.size, 0, none⟩) (([10, 8, 11] : List Int).map (.int .i64)) := (Blk.new_ w _ _).rd rfl
set_option maxHeartbeats 2000000 in
theorem law12_speaks (w : World) : Calls Try.prog 21 #[] w fun e w' => e = .returned (.bool true) ∧ Below w.heap.size w w' := by
  have hN0 : pN [] 100 2 = -9223372036854775808 := by decide
  have hL0 : pLag (winL 2 []) 100 = 0 := by decide
  have hN3 : pN [10, 8, 11] 100 2 = 9 := by decide
  have hL3 : pLag (winL 2 [10, 8, 11]) 100 = 2 := by decide
  have H0 := hid' (And.intro hN0 (And.intro hL0 (And.intro hN3 hL3)))
  clear hN0 hL0 hN3 hL3
  go_enter Try.func21, Try.ntmps21
  go_wp2_with fail
  refine (PG.new_ 100 2 w (by decide) (by decide) (by decide) (by decide)).mono ?_
  rintro e w1 ⟨g, rg, rb, rfl, hG, hB⟩
  have HG := hid' hG
  clear hG
  go_wp2_with fail
  refine (HG.out.now).mono ?_
  rintro e w2 ⟨rfl, rfl⟩
  rw [H0.out.1]
  go_wp2_with fail
  refine (HG.out.lag).mono ?_
  rintro e w2 ⟨rfl, hB2⟩
  rw [H0.out.2.1]
  have HG2 := hid' ((HG.out.below hB2).below (bel_alloc (bel_refl w2) (.cells #[.int .i64 10, .int .i64 8, .int .i64 11] 3)))
  have HBB := hid' (bel_alloc (bel_then hB hB2) (.cells #[.int .i64 10, .int .i64 8, .int .i64 11] 3))
  have HR := hid' (litRd w2)
  go_wp2
  go_loopw [19] (fun v19 wr => ∃ (k : Nat) (v : Value), k ≤ 3 ∧ v19 = .int .i64 k ∧ PG wr w.heap.size g rg rb v 100 2 (([10, 8, 11] : List Int).take k) ∧ Below w.heap.size w wr ∧ Rd wr (some ⟨w2.heap.size, 0, none⟩) (([10, 8, 11] : List Int).map (.int .i64)) ∧ Hid (∀ k, PF g rg rb v k → k ≠ w2.heap.size)) (fun v19 _ => 3 - (intOf v19).toNat)
  case atStart =>
    refine ⟨0, _, by omega, rfl, HG2.out, HBB.out, HR.out, fun k hk e => ?_⟩
    have := ((HG.out.below hB2).bound.1 k hk).2
    omega
  case round =>
    obtain ⟨k, v, hk, rfl, hG3, hB3, hr3, hF⟩ := hrel
    by_cases hlt : k < 3
    · obtain ⟨ad, x, e0, hx, hcx⟩ := Rd.at_ hr3 (j := k) (by simpa using hlt)
      injection e0 with e0
      subst e0
      have hxI : I64 x := by
        have := mem_of_get hx
        simp at this
        unfold I64; omega
      have hcx2 : wr.cell? ⟨w2.heap.size, k, none⟩ = some (.int .i64 x) := by
        rw [Addr.add_lit, Nat.zero_add] at hcx; exact hcx
      have HG3 := hid' hG3
      have HT := hid' (take_snoc' hx)
      have HR3 := hid' hr3
      clear hG3 hr3 hx hcx
      go_wp2_with fail
      refine (HG3.out.seen _ x _ hxI (by rw [List.length_take]; simp; omega)).mono ?_
      rintro e w4 ⟨rfl, v4, hG4, hM4, hv4⟩
      have hB4 := bel_mod hB3 hM4 (fun i hi hp => by have := (HG3.out.bound.1 i hp).1; omega)
      have hF4 : Hid (∀ k, PF g rg rb v4 k → k ≠ w2.heap.size) := fun k hk => by
        rcases hk with h | h | h | h
        · exact hF.out k (.inl h)
        · exact hF.out k (.inr (.inl h))
        · exact hF.out k (.inr (.inr (.inl h)))
        · rcases hv4 with h2 | ⟨b, h2, hle⟩
          · exact hF.out k (.inr (.inr (.inr (by rw [← h2]; exact h))))
          · rw [h] at h2; injection h2 with h2
            have hlt : w2.heap.size < wr.heap.size := World.block_lt_of_cell? wr _ hcx2
            omega
      have hR4 := HR3.out.mod hM4 (fun ad e hp => by injection e with e; subst e; exact hF.out _ hp rfl)
      rw [← HT.out] at hG4
      clear hM4 hv4
      go_wp2
      go_roundw
      case rel => exact ⟨k + 1, v4, by omega, by go_num, hG4, hB4, hR4, hF4⟩
      case measure => first | (simp [intOf]; done) | (simp [intOf]; omega)
    · have hk3 : k = 3 := by omega
      subst hk3
      have HG3 := hid' (show PG wr w.heap.size g rg rb v 100 2 [10, 8, 11] from hG3)
      clear hG3
      go_wp2_with fail
      refine (HG3.out.lag).mono ?_
      rintro e w5 ⟨rfl, hB5⟩
      rw [H0.out.2.2.2]
      have HG5 := hid' (HG3.out.below hB5)
      go_wp2_with fail
      refine (HG5.out.now).mono ?_
      rintro e w6 ⟨rfl, rfl⟩
      rw [H0.out.2.2.1]
      go_wp2
      go_ret
      exact ⟨rfl, bel_then hB3 hB5⟩
end Go.Proofs.Ytcgonoepndlofaa
