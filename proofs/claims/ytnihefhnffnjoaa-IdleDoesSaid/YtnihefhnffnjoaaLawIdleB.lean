
/- The second law of layer 15 (idle), walked. No condition. -/
import Derived.Test.YtnihefhnffnjoaaLawIdle
namespace Go.Proofs.Ytnihefhnffnjoaa
open Go.RowKit
set_option linter.unusedVariables false

def RAct15 (w : World) (cs : List Value) (x : Int × Int) : Prop := cs.length = 2 ∧ RInt .u8 w ((cs.drop 0).take 1) x.1 ∧ RInt .i64 w ((cs.drop 1).take 1) x.2
theorem RAct15.cells {w : World} {cs : List Value} {x : Int × Int} (h : RAct15 w cs x) : cs = [.int .u8 x.1, .int .i64 x.2] ∧ (0 ≤ x.1 ∧ x.1 < 256) ∧ I64 x.2 := by
  obtain ⟨hl, ⟨h1, w1⟩, ⟨h2, w2⟩⟩ := h
  match cs, hl with
  | [a, b], _ =>
    simp at h1 h2
    subst h1 h2
    exact ⟨rfl, wf_u8 w1, I64.of_wf w2⟩
def fAct15 (x : Int × Int) : List Value := [.int .u8 x.1, .int .i64 x.2]
set_option maxRecDepth 100000 in
set_option maxHeartbeats 4000000 in
theorem idleDoes (t st : Int) (A : Option Addr) (cp : Nat) (l : List (Int × Int)) (w : World) (ht : (Lit.int .i64 t).wf = true) (hst : (Lit.int .i64 st).wf = true)
    (hr : ∀ j x, l[j]? = some x → ∃ ad row, A = some ad ∧ RAct15 w row x ∧ row.length = 2 ∧ ∀ i u, row[i]? = some u → w.cell? ((ad.add (j * 2)).add i) = some u) (hn : l.length ≤ maxLen) :
    Calls Try.prog 4 #[.int .i64 t, .int .i64 st, .slice A l.length cp] w fun e w' => e = .returned (.bool true) ∧ Below w.heap.size w w' := by
  have hn' : l.length ≤ 9223372036854775807 := hn
  have HT := hid' (I64.of_wf ht)
  have hstI := I64.of_wf hst
  have HR := hid' (show RdS w A 2 fAct15 l from fun j x hj => by
    obtain ⟨ad, row, e, ha, hl, hc⟩ := hr j x hj
    obtain ⟨rfl, _, _⟩ := ha.cells
    exact ⟨ad, e, rfl, hc⟩)
  have HL := hid' (show ∀ (j : Nat) (x : Int × Int), l[j]? = some x → (0 ≤ x.1 ∧ x.1 < 256) ∧ I64 x.2 from fun j x hj => by
    obtain ⟨ad, row, e, ha, hl, hc⟩ := hr j x hj
    exact ha.cells.2)
  clear hr ht hst hn
  go_enter Try.func4, Try.ntmps4
  go_wp2_with fail
  refine (law15_speaks w).mono ?_
  rintro e w1 ⟨rfl, hB⟩
  by_cases h2 : 200 < l.length
  · go_wp2
    go_ret
    exact ⟨rfl, hB⟩
  have HR1 := hid' (HR.out.below hB)
  have HB := hid' hB
  have HI := hid' (show I64 0 by unfold I64; omega)
  have HG := hid' (show clockGo 0 st = max st 0 by
    unfold I64 at hstI
    unfold clockGo satAdd; split
    · omega
    · rw [if_neg (by omega), if_neg (by omega)]; omega)
  clear HR hB
  go_wp2_with fail
  refine (clock_Go w1.heap.size 0 0 st _ ((Blk.new_ w1 25 #[.int .i64 0]).cell 0) ((Blk.new_ w1 25 #[.int .i64 0]).frozen 0) HI.out hstI).mono ?_
  rintro e w2 ⟨rfl, rfl⟩
  rw [HG.out]
  have hb2 := Blk.new_ w1 25 #[.int .i64 (max st 0)]
  have hB2 := bel_alloc (bel_refl w1) (.cells #[.int .i64 (max st 0)] 25)
  have hmI : I64 (max st 0) := by unfold I64 at *; omega
  have hwI : I64 (max t 0) := by have := HT.out; unfold I64 at *; omega
  go_wp2_with fail
  refine (SIdle.new_ (w0 := w1) hB2 (Nat.le_refl _) hb2 hmI HT.out).mono ?_
  rintro e w3 ⟨g, rfl, hS⟩
  have HS := hid' hS
  clear hS hb2 hB2
  go_wp2_with (go_at_call 19; refine (ref_Add _ _ _ hmI hwI).mono ?_; rintro e w' ⟨rfl, rfl⟩)
  go_loopw [8, 11, 12, 36] (fun v8 v11 v12 v36 wr => ∃ (k : Nat) (now u is : Int), k ≤ l.length ∧ v36 = .int .i64 k ∧ v8 = .int .i64 now ∧ v11 = .int .i64 is ∧ v12 = .int .i64 u ∧ SIdle w1 wr w1.heap.size g now t u is [] ∧ Hid (is = 0 ∨ is = 1 ∨ is = 2 ∨ is = 3)) (fun _ _ _ v36 _ => l.length - (intOf v36).toNat)
  case atStart => exact ⟨0, _, _, 0, by omega, rfl, rfl, rfl, rfl, HS.out, .inl rfl⟩
  case round =>
    obtain ⟨k, now, u, is, hk, rfl, rfl, rfl, rfl, hS, HI4⟩ := hrel
    by_cases hlt : k < l.length
    · obtain ⟨x, hx⟩ : ∃ x, l[k]? = some x := ⟨_, List.getElem?_eq_getElem hlt⟩
      obtain ⟨ad, rfl, -, hc⟩ := HR1.out.below hS.below k x hx
      obtain ⟨⟨hx0, hx1⟩, hxI⟩ := HL.out k x hx
      obtain ⟨kd, n⟩ := x
      have hc0 : wr.cell? (ad.add (k * 2)) = some (.int .u8 kd) := hc 0 _ rfl
      have hc1 : wr.cell? ⟨(ad.add (k * 2)).block, (ad.add (k * 2)).off + 1, none⟩ = some (.int .i64 n) := hc 1 _ rfl
      clear hc hx
      dsimp only at hx0 hx1 hxI
      have hS1 := hS.alloc 37 #[.int .u8 kd, .int .i64 n]
      have HFG := hid' (show clockGo now n = if 0 < n then satAdd now n else now from by
        have hnw := hS.2.2.2.2.2.2.1
        unfold I64 at hnw hxI
        unfold clockGo satAdd; split
        · rw [if_neg (by omega)]
        · split
          · rw [if_pos (by omega)]
          · rw [if_neg (by omega)]; split
            · rfl
            · omega)
      have hnI : I64 now := hS.2.2.2.2.2.2.1
      have HN := hid' (show SIdle w1 wr w1.heap.size g now t u is [] from hS)
      clear hS
      rcases HI4.out with rfl | rfl | rfl | rfl
      · have F0 : idleOver 0 = false := rfl
        have F1 : iTickB 0 u now = decide (u ≤ now) := by unfold iTickB; simp
        go_wp2_with (first | (first
          | (go_at_call 15; refine (SIdle.go _ (by assumption) ?_).mono ?_; (first | assumption | (unfold I64; omega)); rintro e w' ⟨rfl, hS⟩; have hx1 := hS.x1)
          | (go_at_call 16; refine (SIdle.tick (by assumption)).mono ?_; rintro e w' ⟨rfl, hS⟩)
          | (go_at_call 18; refine (SIdle.read (by assumption)).mono ?_; rintro e w' ⟨rfl, hS⟩)
          | (go_at_call 20; refine (SIdle.end_ (by assumption)).mono ?_; rintro e w' ⟨rfl, hS⟩)
          | (go_at_call 21; refine (SIdle.fail_ (by assumption)).mono ?_; rintro e w' ⟨rfl, hS⟩)
          | (go_at_call 17; refine (SIdle.isc (by assumption)).mono ?_; rintro e w' ⟨rfl, rfl⟩)
          | (go_at_call 22; refine (SIdle.over (by assumption)).mono ?_; rintro e w' ⟨rfl, rfl⟩)) | (go_at_call 19; refine (ref_Add _ _ _ ?_ ?_).mono ?_; assumption; assumption; rintro e w' ⟨rfl, rfl⟩))
        all_goals first
          | (exfalso; simp [iTickIs, iEnd, iReadU, idleOver] at *; omega)
          | (go_roundw
             case rel =>
               refine ⟨k + 1, _, _, _, by omega, by go_num, rfl, rfl, rfl, hS.cast ?_ ?_ ?_, by unfold Hid; omega⟩
               all_goals first
                 | rfl
                 | assumption
                 | (rw [HFG.out, if_pos (by assumption)]; done)
                 | (rw [HFG.out, if_neg (by omega)]; done)
                 | (simp [iTickIs, iEnd, iReadU, idleOver]; done)
                 | (simp [iTickIs, iEnd, iReadU, idleOver]; omega)
             case measure => simp [intOf]; omega)
      · have F0 : idleOver 1 = false := rfl
        have F1 : iTickB 1 u now = false := by unfold iTickB; simp
        go_wp2_with (first | (first
          | (go_at_call 15; refine (SIdle.go _ (by assumption) ?_).mono ?_; (first | assumption | (unfold I64; omega)); rintro e w' ⟨rfl, hS⟩; have hx1 := hS.x1)
          | (go_at_call 16; refine (SIdle.tick (by assumption)).mono ?_; rintro e w' ⟨rfl, hS⟩)
          | (go_at_call 18; refine (SIdle.read (by assumption)).mono ?_; rintro e w' ⟨rfl, hS⟩)
          | (go_at_call 20; refine (SIdle.end_ (by assumption)).mono ?_; rintro e w' ⟨rfl, hS⟩)
          | (go_at_call 21; refine (SIdle.fail_ (by assumption)).mono ?_; rintro e w' ⟨rfl, hS⟩)
          | (go_at_call 17; refine (SIdle.isc (by assumption)).mono ?_; rintro e w' ⟨rfl, rfl⟩)
          | (go_at_call 22; refine (SIdle.over (by assumption)).mono ?_; rintro e w' ⟨rfl, rfl⟩)) | (go_at_call 19; refine (ref_Add _ _ _ ?_ ?_).mono ?_; assumption; assumption; rintro e w' ⟨rfl, rfl⟩))
        all_goals first
          | (exfalso; simp [iTickIs, iEnd, iReadU, idleOver] at *; omega)
          | (go_roundw
             case rel =>
               refine ⟨k + 1, _, _, _, by omega, by go_num, rfl, rfl, rfl, hS.cast ?_ ?_ ?_, by unfold Hid; omega⟩
               all_goals first
                 | rfl
                 | assumption
                 | (rw [HFG.out, if_pos (by assumption)]; done)
                 | (rw [HFG.out, if_neg (by omega)]; done)
                 | (simp [iTickIs, iEnd, iReadU, idleOver]; done)
                 | (simp [iTickIs, iEnd, iReadU, idleOver]; omega)
             case measure => simp [intOf]; omega)
      · have F0 : idleOver 2 = true := rfl
        have F1 : iTickB 2 u now = false := by unfold iTickB; simp
        go_wp2_with (first | (first
          | (go_at_call 15; refine (SIdle.go _ (by assumption) ?_).mono ?_; (first | assumption | (unfold I64; omega)); rintro e w' ⟨rfl, hS⟩; have hx1 := hS.x1)
          | (go_at_call 16; refine (SIdle.tick (by assumption)).mono ?_; rintro e w' ⟨rfl, hS⟩)
          | (go_at_call 18; refine (SIdle.read (by assumption)).mono ?_; rintro e w' ⟨rfl, hS⟩)
          | (go_at_call 20; refine (SIdle.end_ (by assumption)).mono ?_; rintro e w' ⟨rfl, hS⟩)
          | (go_at_call 21; refine (SIdle.fail_ (by assumption)).mono ?_; rintro e w' ⟨rfl, hS⟩)
          | (go_at_call 17; refine (SIdle.isc (by assumption)).mono ?_; rintro e w' ⟨rfl, rfl⟩)
          | (go_at_call 22; refine (SIdle.over (by assumption)).mono ?_; rintro e w' ⟨rfl, rfl⟩)) | (go_at_call 19; refine (ref_Add _ _ _ ?_ ?_).mono ?_; assumption; assumption; rintro e w' ⟨rfl, rfl⟩))
        all_goals first
          | (exfalso; simp [iTickIs, iEnd, iReadU, idleOver] at *; omega)
          | (go_roundw
             case rel =>
               refine ⟨k + 1, _, _, _, by omega, by go_num, rfl, rfl, rfl, hS.cast ?_ ?_ ?_, by unfold Hid; omega⟩
               all_goals first
                 | rfl
                 | assumption
                 | (rw [HFG.out, if_pos (by assumption)]; done)
                 | (rw [HFG.out, if_neg (by omega)]; done)
                 | (simp [iTickIs, iEnd, iReadU, idleOver]; done)
                 | (simp [iTickIs, iEnd, iReadU, idleOver]; omega)
             case measure => simp [intOf]; omega)
      · have F0 : idleOver 3 = true := rfl
        have F1 : iTickB 3 u now = false := by unfold iTickB; simp
        go_wp2_with (first | (first
          | (go_at_call 15; refine (SIdle.go _ (by assumption) ?_).mono ?_; (first | assumption | (unfold I64; omega)); rintro e w' ⟨rfl, hS⟩; have hx1 := hS.x1)
          | (go_at_call 16; refine (SIdle.tick (by assumption)).mono ?_; rintro e w' ⟨rfl, hS⟩)
          | (go_at_call 18; refine (SIdle.read (by assumption)).mono ?_; rintro e w' ⟨rfl, hS⟩)
          | (go_at_call 20; refine (SIdle.end_ (by assumption)).mono ?_; rintro e w' ⟨rfl, hS⟩)
          | (go_at_call 21; refine (SIdle.fail_ (by assumption)).mono ?_; rintro e w' ⟨rfl, hS⟩)
          | (go_at_call 17; refine (SIdle.isc (by assumption)).mono ?_; rintro e w' ⟨rfl, rfl⟩)
          | (go_at_call 22; refine (SIdle.over (by assumption)).mono ?_; rintro e w' ⟨rfl, rfl⟩)) | (go_at_call 19; refine (ref_Add _ _ _ ?_ ?_).mono ?_; assumption; assumption; rintro e w' ⟨rfl, rfl⟩))
        all_goals first
          | (exfalso; simp [iTickIs, iEnd, iReadU, idleOver] at *; omega)
          | (go_roundw
             case rel =>
               refine ⟨k + 1, _, _, _, by omega, by go_num, rfl, rfl, rfl, hS.cast ?_ ?_ ?_, by unfold Hid; omega⟩
               all_goals first
                 | rfl
                 | assumption
                 | (rw [HFG.out, if_pos (by assumption)]; done)
                 | (rw [HFG.out, if_neg (by omega)]; done)
                 | (simp [iTickIs, iEnd, iReadU, idleOver]; done)
                 | (simp [iTickIs, iEnd, iReadU, idleOver]; omega)
             case measure => simp [intOf]; omega)
    · go_wp2
      go_ret
      exact ⟨rfl, bel_then HB.out hS.below⟩
end Go.Proofs.Ytnihefhnffnjoaa
