
/- What layer 26's laws ask of one empty log; of what cannot be a source the error. -/
import Derived.Test.YtockkjhciojgbaaGreatDoorPackR
namespace Go.Proofs.YtockkjhciojgbaaGreatDoor
set_option maxRecDepth 100000
set_option linter.unusedSimpArgs false
open Go.RowKit
set_option linter.unusedVariables false
set_option linter.unusedSimpArgs false

theorem itoa_max : Lib.itoa 9223372036854775807 = [57, 50, 50, 51, 51, 55, 50, 48, 51, 54, 56, 53, 52, 55, 55, 53, 56, 48, 55] := by
  decide +kernel
theorem itoa_min : Lib.itoa (-9223372036854775808) = [45, 57, 50, 50, 51, 51, 55, 50, 48, 51, 54, 56, 53, 52, 55, 55, 53, 56, 48, 56] := by
  decide +kernel
theorem quote_nil : quoteP ⟨#[]⟩ = [34, 34] := by
  decide +kernel
def txS0 : ByteArray := ⟨#[115, 111, 117, 114, 99, 101, 32, 49, 32, 48, 10, 98, 111, 117, 110, 100, 101, 100, 32, 48, 10, 108, 111, 103, 32, 34, 34, 10]⟩
def txX : ByteArray := ⟨#[120, 10]⟩
def r1S : RSt := ⟨lnsOf [(0, 0, 0, 0, 0)] 1 0, ([(0, 0, 0, 0, 0)], 1, 0), [[]], [], 1⟩
theorem parse_S0 : parseT (bL txS0) = .inl r1S := by kernel_rfl
theorem parse_X : parseT (bL txX) = .inr 1 := by kernel_rfl
def E1 : ESt := beginE [(0, 0, 0, 0, 0)] [⟨#[]⟩] 1 0 1
theorem play_E1 : playL E1 1 = [109, 97, 114, 107, 32, 57, 50, 50, 51, 51, 55, 50, 48, 51, 54, 56, 53, 52, 55, 55, 53, 56, 48, 55, 10, 112, 97, 114, 116, 32, 48, 32, 50, 32, 48, 32, 45, 57, 50, 50, 51, 51, 55, 50, 48, 51, 54, 56, 53, 52, 55, 55, 53, 56, 48, 56, 10, 101, 110, 100, 32, 57, 50, 50, 51, 51, 55, 50, 48, 51, 54, 56, 53, 52, 55, 55, 53, 56, 48, 55, 32, 48, 32, 48, 10] := by decide +kernel
theorem line_one_ : lnL wLine [((1 : Nat) : Int)] = [108, 105, 110, 101, 32, 49, 10] := by decide +kernel
theorem mark_E1 : E1.out = [.mark 9223372036854775807] := rfl
theorem treeKey_I64 {keys : List Int} (h : ∀ x ∈ keys, I64 x) (i : Int) : I64 (treeKey keys i) := by
  unfold treeKey keyOf
  split
  · rw [List.getD_eq_getElem?_getD]
    cases hk : keys[i.toNat]? with
    | none => unfold I64; decide
    | some x => exact h x (List.mem_of_getElem? hk)
  · unfold I64; decide
theorem pinv_E1 : PInv E1 1 := by
  refine ⟨rfl, by decide, ?_, ?_, by unfold I64; decide, by unfold I64; decide, fun i => ?_⟩
  · intro e he
    rw [mark_E1, List.mem_singleton] at he
    subst he
    exact ⟨by show I64 _; unfold I64; decide, trivial⟩
  · intro p hp
    have hp' : p ∈ [(⟨⟨#[]⟩, 0, 0, gen0 (0, 0, 0, 0, 0), 1, satAdd 0 (max 1 0), 2⟩ : PSt)] := hp
    rw [List.mem_singleton] at hp'
    subst hp'
    exact ⟨by show I64 2; unfold I64; decide, by decide⟩
  · show I64 (treeKey [NEV] i)
    exact treeKey_I64 (fun x hx => by rw [List.mem_singleton] at hx; subst hx; unfold I64; decide) i
theorem run_S0 (w : World) (hT : TabT w) : Calls Tryz.prog 15 #[.string txS0] w fun e w' => e = .returned (.string (strOf (playL E1 1))) ∧ Below w.heap.size w w' := by
  refine report_RunOk txS0 w r1S (playL E1 1) (by decide) (by decide +kernel) (by decide +kernel) hT parse_S0 ?_
  intro cA cq lA lq kA kq W hB h1 h2 h3
  refine report_PlayOk (fun E _ => E) (fun E => E = E1) cA lA kA cq lq kq 1 1 0 [(0, 0, 0, 0, 0)] [⟨#[]⟩] [] W h1 h2 h3 (by decide) (by decide) rfl rfl ?_ (by unfold I64; decide) (by unfold I64; decide) (by decide) ?_ (hT.below hB) ?_ ?_ rfl ?_
  · intro r hr
    rw [List.mem_singleton] at hr; subst hr
    unfold I64; decide
  · intro x hx
    rw [List.mem_singleton] at hx; subst hx
    decide
  · intro c hc; cases hc
  · intro c hc; cases hc
  · rintro E rfl; exact pinv_E1
theorem run_X (w : World) (hT : TabT w) : Calls Tryz.prog 15 #[.string txX] w fun e w' => e = .returned (.string (strOf (lnL wLine [((1 : Nat) : Int)]))) ∧ Below w.heap.size w w' :=
  report_RunBad txX w 1 (by decide) (by decide +kernel) (by decide +kernel) hT (by decide) parse_X
set_option maxHeartbeats 4000000 in
theorem speaks26 (w : World) (hT : TabT w) : Calls Tryz.prog 6 #[] w fun e w' => e = .returned (.bool true) ∧ Below w.heap.size w w' := by
  have HT := hid' hT
  have H0 := hid' (run_S0 w hT)
  rw [play_E1] at H0
  unfold txS0 strOf at H0
  clear hT
  go_enter Tryz.func6, Tryz.ntmps6
  go_wp2_with fail
  refine H0.out.mono ?_
  rintro e w1 ⟨rfl, hB1⟩
  have H1 := hid' (run_X w1 (HT.out.below hB1))
  rw [line_one_] at H1
  unfold txX strOf at H1
  have HB1 := hid' hB1
  clear hB1
  go_wp2_with fail
  refine H1.out.mono ?_
  rintro e w2 ⟨rfl, hB2⟩
  have HB2 := hid' (bel_then HB1.out hB2)
  clear hB2
  go_wp2
  go_ret
  exact ⟨rfl, HB2.out⟩
theorem lnE7 : strOf (lnL wError [7]) = ⟨#[101, 114, 114, 111, 114, 32, 55, 10]⟩ := by
  unfold strOf; rw [show lnL wError [7] = [101, 114, 114, 111, 114, 32, 55, 10] by decide +kernel]
theorem lnE6 : strOf (lnL wError [6]) = ⟨#[101, 114, 114, 111, 114, 32, 54, 10]⟩ := by
  unfold strOf; rw [show lnL wError [6] = [101, 114, 114, 111, 114, 32, 54, 10] by decide +kernel]
set_option maxHeartbeats 4000000 in
theorem reportError (timeout drift : Int) (w : World) (ht : (Lit.int .i64 timeout).wf = true) (hd : (Lit.int .i64 drift).wf = true) (hP : PowT w) (hE : ErV w) (hM : MaxT w) (hU : U8T w) (hZ : TzT w) :
    Calls Tryz.prog 3 #[.int .i64 timeout, .int .i64 drift] w fun e w' => e = .returned (.bool true) ∧ Below w.heap.size w w' := by
  have hT : TabT w := ⟨hP, hE, hM, hU, hZ⟩
  have HT := hid' hT
  have HSP := hid' (speaks26 w hT)
  have hc : cfgC [(0, 0, 0, 0, 0)] timeout drift = if timeout < 1 ∨ drift < 0 then 7 else 0 := by
    unfold cfgC
    rw [if_neg (by simp)]
    rfl
  have hg : ∀ W A, Below w.heap.size w W → RdS W A 5 fRl [((0 : Int), (0 : Int), (0 : Int), (0 : Int), (0 : Int))] → Calls Tryz.prog 7 #[.agg #[.slice A 1 1, .int .i64 timeout, .int .i64 drift, .slice none 0 0, .slice none 0 0]] W fun e w' => e = .returned (.string (strOf (lnL wError [if timeout < 1 ∨ drift < 0 then 7 else 6]))) ∧ Below W.heap.size W w' := by
    intro W A hB hr
    have h := report_PlayErr A none none 1 0 0 1 0 0 timeout drift [(0, 0, 0, 0, 0)] W hr rfl (by decide) (by decide) (.inr (by decide)) (hT.below hB) (by rw [hc]; split <;> (unfold I64; decide))
    rw [hc] at h
    by_cases h1 : timeout < 1 ∨ drift < 0
    · rw [if_pos h1] at h ⊢; exact h
    · rw [if_neg h1] at h ⊢; exact h
  have HG := hid' hg
  clear hP hE hM hU hZ hT hc hg ht hd
  go_enter Tryz.func3, Tryz.ntmps3
  go_wp2_with fail
  refine HSP.out.mono ?_
  rintro e w1 ⟨rfl, hB1⟩
  have hba := bel_alloc hB1 (.cells #[.int .i64 0, .int .i64 0, .int .i64 0, .int .i64 0, .int .i64 0] 24)
  have hbb := bel_alloc hba (.cells #[.slice (some ⟨w1.heap.size, 0, none⟩) 1 1, .int .i64 timeout, .int .i64 drift] 27)
  have hrd : Rd ((w1.alloc (.cells #[.int .i64 0, .int .i64 0, .int .i64 0, .int .i64 0, .int .i64 0] 24)).alloc (.cells #[.slice (some ⟨w1.heap.size, 0, none⟩) 1 1, .int .i64 timeout, .int .i64 drift] 27)) (some ⟨w1.heap.size, 0, none⟩) ([((0 : Int), (0 : Int), (0 : Int), (0 : Int), (0 : Int))].flatMap fRl) :=
    ((Blk.new_ w1 24 #[.int .i64 0, .int .i64 0, .int .i64 0, .int .i64 0, .int .i64 0]).rd rfl).below (bel_alloc (bel_refl _) _)
  have HPL := hid' (HG.out _ _ (bel_then hB1 (bel_alloc (bel_alloc (bel_refl w1) _) _)) (RdS.of_rd' (sz := 5) (f := fRl) (fun x => rfl) (by decide) hrd))
  have HB1 := hid' (bel_then hB1 (bel_alloc (bel_alloc (bel_refl w1) (.cells #[.int .i64 0, .int .i64 0, .int .i64 0, .int .i64 0, .int .i64 0] 24)) (.cells #[.slice (some ⟨w1.heap.size, 0, none⟩) 1 1, .int .i64 timeout, .int .i64 drift] 27)))
  clear hB1 hba hbb hrd
  by_cases h1 : timeout < 1
  · rw [if_pos (.inl h1), lnE7] at HPL
    go_wp2_with fail
    refine HPL.out.mono ?_
    rintro e w2 ⟨rfl, hB2⟩
    have HB2 := hid' (bel_then HB1.out hB2)
    clear hB2
    go_wp2
    go_ret
    exact ⟨rfl, HB2.out⟩
  · by_cases h2 : drift < 0
    · rw [if_pos (.inr h2), lnE7] at HPL
      go_wp2_with fail
      refine HPL.out.mono ?_
      rintro e w2 ⟨rfl, hB2⟩
      have HB2 := hid' (bel_then HB1.out hB2)
      clear hB2
      go_wp2
      go_ret
      exact ⟨rfl, HB2.out⟩
    · rw [if_neg (by omega), lnE6] at HPL
      go_wp2_with fail
      refine HPL.out.mono ?_
      rintro e w2 ⟨rfl, hB2⟩
      have HB2 := hid' (bel_then HB1.out hB2)
      clear hB2
      go_wp2
      go_ret
      exact ⟨rfl, HB2.out⟩
end Go.Proofs.YtockkjhciojgbaaGreatDoor
