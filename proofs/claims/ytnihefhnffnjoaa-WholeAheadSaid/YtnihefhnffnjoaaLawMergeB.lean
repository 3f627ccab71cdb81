
/- The reference of layer 17 (merge). No condition. -/
import Derived.Test.YtnihefhnffnjoaaLawMerge
namespace Go.Proofs.Ytnihefhnffnjoaa
open Go.RowKit
set_option linter.unusedVariables false

/-- The law's row of marks and of what each is. -/
def PartsW (w : World) (A : Option Addr) (marks iss : List Int) : Prop :=
  marks.length = iss.length ∧ ∀ i x y, marks[i]? = some x → iss[i]? = some y → ∃ g, A = some ⟨g, 0, none⟩ ∧ (w.cell? ⟨g, i * 2, none⟩ = some (.int .i64 x) ∧ w.cell? ⟨g, i * 2 + 1, none⟩ = some (.int .i64 y)) ∧ w.frozen? ⟨g, i * 2, none⟩ = false ∧ w.frozen? ⟨g, i * 2 + 1, none⟩ = false
theorem PartsW.mod {w w' : World} {A : Option Addr} {marks iss : List Int} {S : Nat → Prop} (h : PartsW w A marks iss) (m : Mod S w w') (hs : ∀ ad, A = some ad → ¬ S ad.block) : PartsW w' A marks iss := by
  refine ⟨h.1, fun i x y hx hy => ?_⟩
  obtain ⟨g, rfl, ⟨c1, c2⟩, f1, f2⟩ := h.2 i x y hx hy
  have hg := hs _ rfl
  have hb := m.block g (World.block_lt_of_cell? w _ c1) hg
  exact ⟨g, rfl, ⟨m.cell c1 hg, m.cell c2 hg⟩, (World.frozen?_of_block (a := ⟨g, i * 2, none⟩) hb).trans f1, (World.frozen?_of_block (a := ⟨g, i * 2 + 1, none⟩) hb).trans f2⟩
theorem PartsW.setM {w : World} {g : Nat} {marks iss : List Int} (h : PartsW w (some ⟨g, 0, none⟩) marks iss) (q : Nat) (v : Int) : PartsW (w.setCell ⟨g, q * 2, none⟩ (.int .i64 v)) (some ⟨g, 0, none⟩) (marks.set q v) iss := by
  refine ⟨by rw [List.length_set]; exact h.1, fun i x y hx hy => ?_⟩
  rw [List.getElem?_set] at hx
  by_cases hq : q = i
  · subst hq
    rw [if_pos rfl] at hx
    split at hx
    · rename_i hlt
      simp only [Option.some.injEq] at hx
      subst hx
      obtain ⟨g', e, ⟨c1, c2⟩, f1, f2⟩ := h.2 q _ y (List.getElem?_eq_getElem hlt) hy
      injection e with e; injection e with e; subst e
      refine ⟨g, rfl, ⟨World.cell?_setCell_same _ _ _ c1, ?_⟩, by rw [World.frozen?_setCell]; exact f1, by rw [World.frozen?_setCell]; exact f2⟩
      rw [World.cell?_setCell_other _ _ _ _ (by intro e; injection e with _ e; omega)]; exact c2
    · cases hx
  · rw [if_neg hq] at hx
    obtain ⟨g', e, ⟨c1, c2⟩, f1, f2⟩ := h.2 i x y hx hy
    injection e with e; injection e with e; subst e
    refine ⟨g, rfl, ⟨?_, ?_⟩, by rw [World.frozen?_setCell]; exact f1, by rw [World.frozen?_setCell]; exact f2⟩
    · rw [World.cell?_setCell_other _ _ _ _ (by intro e; injection e with _ e; omega)]; exact c1
    · rw [World.cell?_setCell_other _ _ _ _ (by intro e; injection e with _ e; omega)]; exact c2
theorem PartsW.setI {w : World} {g : Nat} {marks iss : List Int} (h : PartsW w (some ⟨g, 0, none⟩) marks iss) (q : Nat) (v : Int) : PartsW (w.setCell ⟨g, q * 2 + 1, none⟩ (.int .i64 v)) (some ⟨g, 0, none⟩) marks (iss.set q v) := by
  refine ⟨by rw [List.length_set]; exact h.1, fun i x y hx hy => ?_⟩
  rw [List.getElem?_set] at hy
  by_cases hq : q = i
  · subst hq
    rw [if_pos rfl] at hy
    split at hy
    · rename_i hlt
      simp only [Option.some.injEq] at hy
      subst hy
      obtain ⟨g', e, ⟨c1, c2⟩, f1, f2⟩ := h.2 q x _ hx (List.getElem?_eq_getElem hlt)
      injection e with e; injection e with e; subst e
      refine ⟨g, rfl, ⟨?_, World.cell?_setCell_same _ _ _ c2⟩, by rw [World.frozen?_setCell]; exact f1, by rw [World.frozen?_setCell]; exact f2⟩
      rw [World.cell?_setCell_other _ _ _ _ (by intro e; injection e with _ e; omega)]; exact c1
    · cases hy
  · rw [if_neg hq] at hy
    obtain ⟨g', e, ⟨c1, c2⟩, f1, f2⟩ := h.2 i x y hx hy
    injection e with e; injection e with e; subst e
    refine ⟨g, rfl, ⟨?_, ?_⟩, by rw [World.frozen?_setCell]; exact f1, by rw [World.frozen?_setCell]; exact f2⟩
    · rw [World.cell?_setCell_other _ _ _ _ (by intro e; injection e with _ e; omega)]; exact c1
    · rw [World.cell?_setCell_other _ _ _ _ (by intro e; injection e with _ e; omega)]; exact c2
theorem lk_ge (keys : List Int) (q : Nat) : lkB keys (q : Int) = keyOf keys (q : Int) ∧ loB (q : Int) = true := by unfold lkB loB; rw [if_neg (by omega)]; simp
set_option maxRecDepth 100000 in
set_option maxHeartbeats 2000000 in
theorem ref17_least (A : Option Addr) (cp m : Nat) (c : Int) (marks iss : List Int) (w : World) (h : PartsW w A marks iss) (hl : marks.length = m) (hn : m ≤ 1000) :
    Calls Try.prog 57 #[.slice A m cp, .int .i64 c] w fun e w' => e = .returned (.tuple #[.int .i64 (lkB marks (bestK marks (outOf c iss) m)), .bool (loB (bestK marks (outOf c iss) m))]) ∧ w = w' := by
  have HH := hid' h
  have HL := hid' hl
  clear h hl
  go_enter Try.func57, Try.ntmps57
  go_wp2
  go_loop [6, 7, 8] (fun v6 v7 v8 => ∃ i : Nat, i ≤ m ∧ v8 = .int .i64 i ∧ v6 = .int .i64 (lkB marks (bestK marks (outOf c iss) i)) ∧ v7 = .bool (loB (bestK marks (outOf c iss) i))) (fun _ _ v8 => m - (intOf v8).toNat)
  case atStart => exact ⟨0, by omega, rfl, rfl, rfl⟩
  case round =>
    obtain ⟨i, hi', rfl, rfl, rfl⟩ := hrel
    by_cases hlt2 : i < m
    · have hxm : i < marks.length := by have := HL.out; omega
      obtain ⟨y, hy⟩ : ∃ y, iss[i]? = some y := ⟨_, List.getElem?_eq_getElem (by have := HH.out.1; omega)⟩
      obtain ⟨g, rfl, ⟨c1, c2⟩, -⟩ := HH.out.2 i _ y (keyOf_at hxm) hy
      have HB1 := hid' (bestK_succ marks (outOf c iss) i)
      have hin := innOf_out (c := c) hy
      rw [hin] at HB1
      have hpl := bestK_place marks (outOf c iss) i
      generalize bestK marks (outOf c iss) i = b at *
      clear hy hin
      by_cases hyc : y = c
      · subst hyc
        have HB2 := hid' (show bestK marks (outOf y iss) (i + 1) = better (keyOf marks) b (i : Int) by rw [HB1.out]; simp)
        clear HB1
        rcases hpl with rfl | ⟨q, rfl, hq⟩
        · have HN := hid' (show bestK marks (outOf y iss) (i + 1) = (i : Int) by rw [HB2.out, none_better])
          have b1 : loB (-1) = false := rfl
          have HE := hid' (lk_ge marks i)
          go_wp2
          go_round
          case rel => exact ⟨i + 1, by omega, by go_num, by rw [HN.out, HE.out.1], by rw [HN.out, HE.out.2]⟩
          case measure => simp [intOf]; omega
        · have b1 : loB (q : Int) = true := (lk_ge marks q).2
          have HE := hid' (fun q => lk_ge marks q)
          obtain ⟨kq, hkq⟩ : ∃ kq, kq = keyOf marks (q : Int) := ⟨_, rfl⟩
          obtain ⟨ki, hki⟩ : ∃ ki, ki = keyOf marks (i : Int) := ⟨_, rfl⟩
          rw [(HE.out q).1, ← hkq]
          rw [← hki] at c1
          by_cases hle : kq ≤ ki
          · have HN := hid' (show bestK marks (outOf y iss) (i + 1) = (q : Int) by rw [HB2.out]; unfold better; rw [if_neg (by omega), if_pos (.inr (by rw [← hkq, ← hki]; exact hle))])
            have HQ := hid' hkq
            clear hkq hki
            go_wp2
            go_round
            case rel => exact ⟨i + 1, by omega, by go_num, by rw [HN.out, (HE.out q).1, HQ.out], by rw [HN.out, (HE.out q).2]⟩
            case measure => simp [intOf]; omega
          · have HN := hid' (show bestK marks (outOf y iss) (i + 1) = (i : Int) by rw [HB2.out]; unfold better; rw [if_neg (by omega), if_neg (by rw [← hkq, ← hki]; omega)])
            have HI := hid' hki
            clear hkq hki
            go_wp2
            go_round
            case rel => exact ⟨i + 1, by omega, by go_num, by rw [HN.out, (HE.out i).1, HI.out], by rw [HN.out, (HE.out i).2]⟩
            case measure => simp [intOf]; omega
      · have hb : (y == c) = false := by rw [beq_eq_false_iff_ne]; exact hyc
        have HN := hid' (show bestK marks (outOf c iss) (i + 1) = b by rw [HB1.out, hb]; exact better_none _ _)
        clear HB1 hyc
        go_wp2
        go_round
        case rel => exact ⟨i + 1, by omega, by go_num, by rw [HN.out], by rw [HN.out]⟩
        case measure => simp [intOf]; omega
    · have him : i = m := by omega
      subst him
      go_wp2
      go_ret2
      exact ⟨rfl, rfl⟩
theorem ref17_Least (A : Option Addr) (cp m : Nat) (marks iss : List Int) (w : World) (h : PartsW w A marks iss) (hl : marks.length = m) (hn : m ≤ 1000) :
    Calls Try.prog 46 #[.slice A m cp] w fun e w' => e = .returned (.int .i64 (mergeLeast marks iss)) ∧ w = w' := by
  have H0 := hid' (ref17_least A cp m 0 marks iss w h hl hn)
  have H1 := hid' (ref17_least A cp m 1 marks iss w h hl hn)
  have HE := hid' (show mergeLeast marks iss = if loB (bestK marks (outOf 0 iss) m) = true then lkB marks (bestK marks (outOf 0 iss) m) else if loB (bestK marks (outOf 1 iss) m) = true then lkB marks (bestK marks (outOf 1 iss) m) else 9223372036854775807 by subst hl; rfl)
  clear h hl
  generalize loB (bestK marks (outOf 0 iss) m) = b0 at *
  generalize loB (bestK marks (outOf 1 iss) m) = b1 at *
  generalize lkB marks (bestK marks (outOf 0 iss) m) = x0 at *
  generalize lkB marks (bestK marks (outOf 1 iss) m) = x1 at *
  go_enter Try.func46, Try.ntmps46
  go_wp2_with fail
  refine H0.out.mono ?_
  rintro e w' ⟨rfl, rfl⟩
  cases b0
  · go_wp2_with fail
    refine H1.out.mono ?_
    rintro e w' ⟨rfl, rfl⟩
    cases b1
    · go_wp2
      go_ret
      exact ⟨ret_int (by rw [HE.out]; rfl), rfl⟩
    · go_wp2
      go_ret
      exact ⟨ret_int (by rw [HE.out]; rfl), rfl⟩
  · go_wp2
    go_ret
    exact ⟨ret_int (by rw [HE.out]; rfl), rfl⟩
end Go.Proofs.Ytnihefhnffnjoaa
