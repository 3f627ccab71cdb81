
/- The second law of layer 17 (merge), walked. No condition. -/
import Derived.Test.YtnihefhnffnjoaaLawMergeB
namespace Go.Proofs.Ytnihefhnffnjoaa
open Go.RowKit
set_option linter.unusedVariables false

def flatR (k : Nat) : List Value := (List.replicate k [Value.int .i64 NEV, Value.int .i64 0]).flatten
theorem flatR_succ (k : Nat) : flatR (k + 1) = flatR k ++ [Value.int .i64 NEV, Value.int .i64 0] := by
  unfold flatR; rw [List.replicate_succ', List.flatten_append]; simp
theorem flatR_len (k : Nat) : (flatR k).length = k * 2 := by
  induction k with
  | zero => rfl
  | succ k ih => rw [flatR_succ, List.length_append, ih]; simp; omega
theorem flatR_get (k i : Nat) (h : i < k) : (flatR k)[i * 2]? = some (.int .i64 NEV) ∧ (flatR k)[i * 2 + 1]? = some (.int .i64 0) := by
  induction k with
  | zero => omega
  | succ k ih =>
    rw [flatR_succ]
    by_cases hik : i < k
    · rw [List.getElem?_append_left (by rw [flatR_len]; omega), List.getElem?_append_left (by rw [flatR_len]; omega)]
      exact ih hik
    · have : i = k := by omega
      subst this
      rw [List.getElem?_append_right (by rw [flatR_len]; omega), List.getElem?_append_right (by rw [flatR_len]; omega), flatR_len]
      simp
theorem own_parts {w : World} {base : Nat} {v : Value} {k : Nat} (h : w.ownsRow base 74 2 v k (flatR k)) :
    ∃ A c, v = .slice A k c ∧ k ≤ c ∧ c ≤ maxLen ∧ PartsW w A (List.replicate k NEV) (List.replicate k 0) ∧ ∀ ad, A = some ad → base ≤ ad.block ∧ ad.block < w.heap.size := by
  rcases h.2 with ⟨rfl, rfl⟩ | ⟨g, cap, cur, rfl, hb, hh, h1, h2, h3, h4⟩
  · exact ⟨none, 0, rfl, Nat.le_refl _, by unfold maxLen; omega, ⟨rfl, fun i x y hx => by simp at hx⟩, fun ad e => by cases e⟩
  · have hB : Blk w g 74 cur := hh
    refine ⟨_, cap, rfl, h1, h2, ⟨by simp, fun i x y hx hy => ?_⟩, fun ad e => by injection e with e; subst e; exact ⟨hb, hB.lt⟩⟩
    have hik := (List.getElem?_eq_some_iff.1 hx).1
    rw [List.length_replicate] at hik
    rw [List.getElem?_replicate, if_pos hik] at hx hy
    simp only [Option.some.injEq] at hx hy
    subst hx hy
    have hg := flatR_get k i hik
    rw [← h4] at hg
    refine ⟨g, rfl, ⟨?_, ?_⟩, hB.frozen _, hB.frozen _⟩
    · rw [hB.cell]
      have := hg.1
      rw [List.getElem?_take] at this
      split at this
      · simpa using this
      · cases this
    · rw [hB.cell]
      have := hg.2
      rw [List.getElem?_take] at this
      split at this
      · simpa using this
      · cases this

/-- A merge, and the law's own row. -/
def S17 (w0 w : World) (lo hi g : Nat) (marks iss : List Int) (now : Int) (A : Option Addr) (M I : List Int) (ex : Ex6) : Prop :=
  SM w0 w lo hi g marks iss now ex ∧ PartsW w A M I ∧ (∀ ad, A = some ad → w0.heap.size ≤ ad.block ∧ (ad.block < lo ∨ hi ≤ ad.block) ∧ ad.block < w.heap.size ∧ ∀ x ∈ ex, x.1 ≠ ad.block)
section
variable {w0 w : World} {lo hi g : Nat} {marks iss M I : List Int} {now : Int} {A : Option Addr} {ex : Ex6}
theorem S17.dr {w' : World} (h : S17 w0 w lo hi g marks iss now A M I ex) (hb : Dr w w') : S17 w0 w' lo hi g marks iss now A M I ex := by
  obtain ⟨n, rfl⟩ := hb
  exact ⟨h.1.dr ⟨n, rfl⟩, h.2⟩
theorem S17.step {marks' iss' : List Int} {now' : Int} {w' : World} (h : S17 w0 w lo hi g marks iss now A M I ex) (hs : SM w0 w' lo hi g marks' iss' now' ex) (hm : Mod (fun k => lo ≤ k ∧ k < hi) w w') : S17 w0 w' lo hi g marks' iss' now' A M I ex :=
  ⟨hs, h.2.1.mod hm (fun ad e hk => by have := h.2.2 ad e; omega), fun ad e => ⟨(h.2.2 ad e).1, (h.2.2 ad e).2.1, Nat.lt_of_lt_of_le (h.2.2 ad e).2.2.1 hm.size, (h.2.2 ad e).2.2.2⟩⟩
theorem S17.mark (i x : Int) (h : S17 w0 w lo hi g marks iss now A M I ex) (hx : I64 x) :
    Calls Try.prog 41 #[.pointer (some ⟨g, 0, none⟩), .int .i64 i, .int .i64 x] w fun e w' => e = .returned (.bool (treeHas iss.length i)) ∧ S17 w0 w' lo hi g (alSet marks i x) iss now A M I ex :=
  (h.1.mark i x hx).mono fun e w' ⟨he, hs, hm⟩ => ⟨he, h.step hs hm⟩
theorem S17.is_ (i x : Int) (h : S17 w0 w lo hi g marks iss now A M I ex) :
    Calls Try.prog 42 #[.pointer (some ⟨g, 0, none⟩), .int .i64 i, .int .i64 x] w fun e w' => e = .returned (.bool (treeHas iss.length i)) ∧ S17 w0 w' lo hi g marks (alSet iss i x) now A M I ex :=
  (h.1.is_ i x).mono fun e w' ⟨he, hs, hm⟩ => ⟨he, h.step hs hm⟩
theorem S17.adv (h : S17 w0 w lo hi g marks iss now A M I ex) :
    Calls Try.prog 43 #[.pointer (some ⟨g, 0, none⟩)] w fun e w' => e = .returned (.tuple #[.int .i64 (advAt now (mergeLeast marks iss)), .bool (decide (now < mergeLeast marks iss))]) ∧
      S17 w0 w' lo hi g marks iss (max now (mergeLeast marks iss)) A M I ex :=
  h.1.adv.mono fun e w' ⟨he, hs, hm⟩ => ⟨he, h.step hs hm⟩
theorem S17.refLeast {m cp : Nat} (h : S17 w0 w lo hi g marks iss now A M I ex) (hl : M.length = m) (hn : m ≤ 1000) :
    Calls Try.prog 46 #[.slice A m cp] w fun e w' => e = .returned (.int .i64 (mergeLeast M I)) ∧ w = w' := ref17_Least A cp m M I w h.2.1 hl hn
theorem S17.alloc (h : S17 w0 w lo hi g marks iss now A M I []) (T : TypeId) (cs : Array Value) : S17 w0 (w.alloc (.cells cs T)) lo hi g marks iss now A M I [(w.heap.size, T, cs)] := by
  have hb : Mod (fun _ => False) w (w.alloc (.cells cs T)) := Mod.of_below (bel_alloc (bel_refl w) _)
  refine ⟨h.1.alloc T cs, h.2.1.mod hb (fun _ _ h => h), fun ad e => ⟨(h.2.2 ad e).1, (h.2.2 ad e).2.1, Nat.lt_of_lt_of_le (h.2.2 ad e).2.2.1 hb.size, fun x hx => ?_⟩⟩
  rw [List.mem_singleton] at hx
  subst hx
  have := (h.2.2 ad e).2.2.1
  show w.heap.size ≠ ad.block
  omega
theorem S17.drop (h : S17 w0 w lo hi g marks iss now A M I ex) : S17 w0 w lo hi g marks iss now A M I [] :=
  ⟨h.1.drop, h.2.1, fun ad e => ⟨(h.2.2 ad e).1, (h.2.2 ad e).2.1, (h.2.2 ad e).2.2.1, fun x hx => by cases hx⟩⟩
theorem SM.put {ex : Ex6} {b i : Nat} {v : Value} (h : SM w0 w lo hi g marks iss now ex) (hb0 : w0.heap.size ≤ b) (hb : b < lo ∨ hi ≤ b) (hx : ∀ x ∈ ex, x.1 ≠ b) : SM w0 (w.setCell ⟨b, i, none⟩ v) lo hi g marks iss now ex := by
  obtain ⟨h1, h2, h3, h4, h5⟩ := h
  have hm : Mod (fun k => k = b) w (w.setCell ⟨b, i, none⟩ v) := (Mod.refl (fun k => k = b) w).setCell (p := ⟨b, i, none⟩) (fun _ => rfl) _
  exact ⟨bel_mod h1 hm (by intro i hi; omega), h2, by simpa using h3, h4.mod hm (by intro k e1 e2 e3; omega), fun x hx' => ⟨Blk.far (h5 x hx').1 (p := ⟨b, i, none⟩) (hx x hx') _, (h5 x hx').2⟩⟩
theorem S17.setM {ga : Nat} (h : S17 w0 w lo hi g marks iss now (some ⟨ga, 0, none⟩) M I ex) (q : Nat) (x : Int) : S17 w0 (w.setCell ⟨ga, q * 2, none⟩ (.int .i64 x)) lo hi g marks iss now (some ⟨ga, 0, none⟩) (M.set q x) I ex := by
  have h2 := h.2.2 _ rfl
  exact ⟨h.1.put h2.1 h2.2.1 h2.2.2.2, h.2.1.setM q x, fun ad e => by injection e with e; subst e; exact ⟨h2.1, h2.2.1, by simpa using h2.2.2.1, h2.2.2.2⟩⟩
theorem S17.setI {ga : Nat} (h : S17 w0 w lo hi g marks iss now (some ⟨ga, 0, none⟩) M I ex) (q : Nat) (x : Int) : S17 w0 (w.setCell ⟨ga, q * 2 + 1, none⟩ (.int .i64 x)) lo hi g marks iss now (some ⟨ga, 0, none⟩) M (I.set q x) ex := by
  have h2 := h.2.2 _ rfl
  exact ⟨h.1.put h2.1 h2.2.1 h2.2.2.2, h.2.1.setI q x, fun ad e => by injection e with e; subst e; exact ⟨h2.1, h2.2.1, by simpa using h2.2.2.1, h2.2.2.2⟩⟩
end

set_option maxRecDepth 100000 in
set_option maxHeartbeats 4000000 in
theorem mergeDoes (n : Int) (A0 : Option Addr) (cp : Nat) (l : List (Int × Int × Int)) (w : World) (hnn : (Lit.int .i64 n).wf = true)
    (hr : ∀ j x, l[j]? = some x → ∃ ad row, A0 = some ad ∧ RAct17 w row x ∧ row.length = 3 ∧ ∀ i u, row[i]? = some u → w.cell? ((ad.add (j * 3)).add i) = some u) (hn : l.length ≤ maxLen) :
    Calls Try.prog 10 #[.int .i64 n, .slice A0 l.length cp] w fun e w' => e = .returned (.bool true) ∧ Below w.heap.size w w' := by
  have hn' : l.length ≤ 9223372036854775807 := hn
  have HR := hid' (show RdS w A0 3 fAct17 l from fun j x hj => by
    obtain ⟨ad, row, e, ha, hl, hc⟩ := hr j x hj
    obtain ⟨rfl, _, _⟩ := ha.cells
    exact ⟨ad, e, rfl, hc⟩)
  have HL := hid' (show ∀ (j : Nat) (x : Int × Int × Int), l[j]? = some x → (0 ≤ x.1 ∧ x.1 < 256) ∧ I64 x.2.1 ∧ I64 x.2.2 from fun j x hj => by
    obtain ⟨ad, row, e, ha, hl, hc⟩ := hr j x hj
    exact ha.cells.2)
  clear hr hnn hn
  go_enter Try.func10, Try.ntmps10
  go_wp2_with fail
  refine (law17_speaks w).mono ?_
  rintro e w1 ⟨rfl, hB⟩
  by_cases hn0 : 300 < n
  · go_wp2
    go_ret
    exact ⟨rfl, hB⟩
  by_cases hl0 : 200 < l.length
  · have hn1 : decide (300 < n) = false := decide_eq_false hn0
    go_wp2
    go_ret
    exact ⟨rfl, hB⟩
  have HR1 := hid' (HR.out.below hB)
  have HB := hid' hB
  clear HR hB
  go_wp2_with fail
  refine (SM.new_ (w0 := w1) n (bel_refl _) (by omega)).mono ?_
  rintro e w2 ⟨lo, hi, g, rfl, hS⟩
  obtain ⟨m, hm⟩ : ∃ m : Nat, n.toNat = m := ⟨_, rfl⟩
  rw [hm] at hS
  have hm1 : m ≤ 1000 := by omega
  have hmn : n ≤ (m : Int) := by omega
  have hmn2 : 0 < m → (m : Int) ≤ n := by omega
  have HS := hid' hS
  have hm300 : m ≤ 300 := by omega
  clear hS hm
  go_wp2
  go_loopw [6, 27] (fun v6 v27 wr => ∃ k : Nat, k ≤ m ∧ v27 = .int .i64 k ∧ Below w2.heap.size w2 wr ∧ wr.ownsRow w2.heap.size 74 2 v6 k (flatR k)) (fun _ v27 _ => m - (intOf v27).toNat)
  case atStart => exact ⟨0, Nat.zero_le _, rfl, bel_refl _, own_nil' _ _ _ _⟩
  case round =>
    obtain ⟨k, hk, rfl, hbw, hown⟩ := hrel
    have HO := hid' hown
    clear hown
    by_cases hlt : k < m
    · have hkn : (k : Int) < n := by have := hmn2 (by omega); omega
      have hlen : (k + 1) * 16 ≤ 140737488355328 := by omega
      have hsz := hbw.size
      go_wp2_with (at_builtin; go_loud (refine ap_cells w2.heap.size rfl (.tmp 29) (.tmp 31) 72 74 (.agg #[.int .i64 0, .int .i64 0]) 2 16 rfl (by kernel_rfl) (by kernel_rfl) rfl (by decide) (by decide) _ k (flatR k) [.int .i64 NEV, .int .i64 0] rfl rfl rfl (by intro u hu; simp at hu; rcases hu with rfl | rfl <;> rfl) HO.out hsz hlen ?_); intro v1 w5 hown hg hat)
      have hbl := bel_mod hbw (Mod.of_grown hg) (fun i hi e => by have := own_base' HO.out i e; omega)
      have HO2 := hid' hown
      clear hown hg hat
      go_roundw
      case rel => exact ⟨k + 1, by omega, by go_num, hbl, by rw [flatR_succ]; exact HO2.out⟩
      case measure => simp [intOf]; omega
    · have hkm : k = m := by omega
      subst hkm
      obtain ⟨A, cA, rfl, hcA, -, hpw, hA⟩ := own_parts HO.out
      have HS0 := hid' (show S17 w1 wr lo hi g (List.replicate k NEV) (List.replicate k 0) NEV A (List.replicate k NEV) (List.replicate k 0) [] from
        ⟨HS.out.bel hbw, hpw, fun ad e => by have h1 := hA ad e; have h2 := HS.out.2.2.1; have h3 := HS.out.below.size; exact ⟨by omega, .inr (by omega), h1.2, fun x hx => by cases hx⟩⟩)
      have hkn : ¬ ((k : Int) < n) := by omega
      clear hpw hA HO hbw HS hmn2
      go_wp2
      clear hkn hmn
      generalize k = m at *
      go_loopw [7, 36] (fun v7 v36 wr => ∃ (k : Nat) (marks iss : List Int) (now : Int), k ≤ l.length ∧ v36 = .int .i64 k ∧ v7 = .int .i64 now ∧ marks.length = m ∧ S17 w1 wr lo hi g marks iss now A marks iss []) (fun _ v36 _ => l.length - (intOf v36).toNat)
      case atStart => exact ⟨0, _, _, NEV, by omega, rfl, rfl, by simp, HS0.out⟩
      case round =>
        obtain ⟨k, marks, iss, now, hk, rfl, rfl, hML, hS⟩ := hrel
        have HML := hid' hML
        have HIL := hid' (show iss.length = m by rw [← hS.2.1.1]; exact hML)
        by_cases hlt : k < l.length
        · obtain ⟨x, hx⟩ : ∃ x, l[k]? = some x := ⟨_, List.getElem?_eq_getElem hlt⟩
          obtain ⟨ad, rfl, -, hc⟩ := HR1.out.below hS.1.below k x hx
          obtain ⟨⟨hk0, hk1⟩, hxI, hxI2⟩ := HL.out k x hx
          obtain ⟨kd, xi, xn⟩ := x
          dsimp only at hk0 hk1 hxI hxI2
          have hc0 : wr.cell? (ad.add (k * 3)) = some (.int .u8 kd) := hc 0 _ rfl
          have hc1 : wr.cell? ⟨(ad.add (k * 3)).block, (ad.add (k * 3)).off + 1, none⟩ = some (.int .i64 xi) := hc 1 _ rfl
          have hc2 : wr.cell? ⟨(ad.add (k * 3)).block, (ad.add (k * 3)).off + 2, none⟩ = some (.int .i64 xn) := hc 2 _ rfl
          have HS1 := hid' (hS.alloc 68 #[.int .u8 kd, .int .i64 xi, .int .i64 xn])
          clear hc hx hS hML
          by_cases hneg : xi < 0
          · have HE := hid' (show treeHas m xi = false from decide_eq_false (by omega))
            by_cases hkd0 : kd % 3 = 0
            · have hkb0 : (kd % 3 == 0) = true := by rw [beq_iff_eq]; exact hkd0
              clear hkd0
              go_wp2_with fail
              refine (HS1.out.mark xi xn hxI2).mono ?_
              rintro e w5 ⟨rfl, hS5⟩
              generalize wr.heap.size = ba at *
              rw [alSet_out (by rw [HML.out]; exact HE.out)] at hS5
              rw [HIL.out, HE.out]
              have HS8 := hid' hS5
              clear HS1 hS5 hc0 hc1 hc2
              have HQ1 := hid' fun (wx : World) (hw : Dr w5 wx) => (HS8.out.dr hw).1.least
              have HQ2 := hid' fun (wx : World) (hw : Dr w5 wx) => (HS8.out.dr hw).refLeast (cp := cA) HML.out hm1
              have HQ3 := hid' fun (wx : World) (hw : Dr w5 wx) => (HS8.out.dr hw).1.now_
              have HQ4 := hid' fun (wx : World) (hw : Dr w5 wx) => (HS8.out.dr hw).1.at_ xi
              rw [show treeKey marks xi = 0 by unfold treeKey; rw [HML.out, if_neg (by rw [HE.out]; simp)]] at HQ4
              have x1 : (w5).cell? ⟨ba, 1, none⟩ = some (.int .i64 xi) := by simpa using HS8.out.1.e0.cell 1
              generalize mergeLeast marks iss = L8 at HQ1 HQ2
              go_wp2
              go_quiet ((first
                | (go_at_call 44; exact quiet_same (HQ1.out _ (by repeat (first | exact Dr.refl _ | apply Dr.step | apply Dr.stepd))) (by repeat (first | exact Dr.refl _ | apply Dr.step | apply Dr.stepd)))
                | (go_at_call 46; exact quiet_same (HQ2.out _ (by repeat (first | exact Dr.refl _ | apply Dr.step | apply Dr.stepd))) (by repeat (first | exact Dr.refl _ | apply Dr.step | apply Dr.stepd)))
                | (go_at_call 45; exact quiet_same (HQ3.out _ (by repeat (first | exact Dr.refl _ | apply Dr.step | apply Dr.stepd))) (by repeat (first | exact Dr.refl _ | apply Dr.step | apply Dr.stepd)))
                | (go_at_call 47; exact quiet_same (HQ4.out _ (by repeat (first | exact Dr.refl _ | apply Dr.step | apply Dr.stepd))) (by repeat (first | exact Dr.refl _ | apply Dr.step | apply Dr.stepd)))))
              go_wp2
              go_roundw
              case rel => exact ⟨k + 1, _, _, _, by omega, by go_num, rfl, HML.out, HS8.out.drop.dr (by repeat (first | exact Dr.refl _ | apply Dr.step | apply Dr.stepd))⟩
              case measure => simp [intOf]; omega
            · have hkb0 : (kd % 3 == 0) = false := by rw [beq_eq_false_iff_ne]; exact hkd0
              by_cases hkd1 : kd % 3 = 1
              · have hkb1 : (kd % 3 == 1) = true := by rw [beq_iff_eq]; exact hkd1
                clear hkd0 hkd1
                go_wp2_with fail
                refine (HS1.out.is_ xi _).mono ?_
                rintro e w5 ⟨rfl, hS5⟩
                generalize wr.heap.size = ba at *
                rw [alSet_out (by rw [HIL.out]; exact HE.out)] at hS5
                rw [HIL.out, HE.out]
                have HS8 := hid' hS5
                clear HS1 hS5 hc0 hc1 hc2
                have HQ1 := hid' fun (wx : World) (hw : Dr w5 wx) => (HS8.out.dr hw).1.least
                have HQ2 := hid' fun (wx : World) (hw : Dr w5 wx) => (HS8.out.dr hw).refLeast (cp := cA) HML.out hm1
                have HQ3 := hid' fun (wx : World) (hw : Dr w5 wx) => (HS8.out.dr hw).1.now_
                have HQ4 := hid' fun (wx : World) (hw : Dr w5 wx) => (HS8.out.dr hw).1.at_ xi
                rw [show treeKey marks xi = 0 by unfold treeKey; rw [HML.out, if_neg (by rw [HE.out]; simp)]] at HQ4
                have x1 : (w5).cell? ⟨ba, 1, none⟩ = some (.int .i64 xi) := by simpa using HS8.out.1.e0.cell 1
                generalize mergeLeast marks iss = L8 at HQ1 HQ2
                go_wp2
                go_quiet ((first
                  | (go_at_call 44; exact quiet_same (HQ1.out _ (by repeat (first | exact Dr.refl _ | apply Dr.step | apply Dr.stepd))) (by repeat (first | exact Dr.refl _ | apply Dr.step | apply Dr.stepd)))
                  | (go_at_call 46; exact quiet_same (HQ2.out _ (by repeat (first | exact Dr.refl _ | apply Dr.step | apply Dr.stepd))) (by repeat (first | exact Dr.refl _ | apply Dr.step | apply Dr.stepd)))
                  | (go_at_call 45; exact quiet_same (HQ3.out _ (by repeat (first | exact Dr.refl _ | apply Dr.step | apply Dr.stepd))) (by repeat (first | exact Dr.refl _ | apply Dr.step | apply Dr.stepd)))
                  | (go_at_call 47; exact quiet_same (HQ4.out _ (by repeat (first | exact Dr.refl _ | apply Dr.step | apply Dr.stepd))) (by repeat (first | exact Dr.refl _ | apply Dr.step | apply Dr.stepd)))))
                go_wp2
                go_roundw
                case rel => exact ⟨k + 1, _, _, _, by omega, by go_num, rfl, HML.out, HS8.out.drop.dr (by repeat (first | exact Dr.refl _ | apply Dr.step | apply Dr.stepd))⟩
                case measure => simp [intOf]; omega
              · have hkb1 : (kd % 3 == 1) = false := by rw [beq_eq_false_iff_ne]; exact hkd1
                clear hkd0 hkd1
                go_wp2_with fail
                refine (HS1.out.adv).mono ?_
                rintro e w5 ⟨rfl, hS5⟩
                generalize wr.heap.size = ba at *
                have HS8 := hid' hS5
                have HRL := hid' (hS5.refLeast (cp := cA) HML.out hm1)
                have HAt := hid' (show advAt now (mergeLeast marks iss) = if now < mergeLeast marks iss then mergeLeast marks iss else 0 from rfl)
                clear HS1 hS5 hc0 hc1 hc2
                obtain ⟨L, hL⟩ : ∃ L, L = mergeLeast marks iss := ⟨_, rfl⟩
                rw [← hL] at HS8 HRL HAt
                rw [← hL]
                clear hL
                by_cases hnl : now < L
                · have hd : decide (now < L) = true := decide_eq_true hnl
                  rw [show advAt now L = L by unfold advAt; rw [if_pos hnl], hd]
                  rw [show max now L = L by omega] at HS8
                  have hmx : max now L = L := by omega
                  clear HAt hd
                  go_wp2_with (go_at_call 46; refine (HRL.out).mono ?_; rintro e w' ⟨rfl, rfl⟩)
                  have HQ1 := hid' fun (wx : World) (hw : Dr w5 wx) => (HS8.out.dr hw).1.least
                  have HQ2 := hid' fun (wx : World) (hw : Dr w5 wx) => (HS8.out.dr hw).refLeast (cp := cA) HML.out hm1
                  have HQ3 := hid' fun (wx : World) (hw : Dr w5 wx) => (HS8.out.dr hw).1.now_
                  have HQ4 := hid' fun (wx : World) (hw : Dr w5 wx) => (HS8.out.dr hw).1.at_ xi
                  rw [show treeKey marks xi = 0 by unfold treeKey; rw [HML.out, if_neg (by rw [HE.out]; simp)]] at HQ4
                  have x1 : (w5).cell? ⟨ba, 1, none⟩ = some (.int .i64 xi) := by simpa using HS8.out.1.e0.cell 1
                  generalize mergeLeast marks iss = L8 at HQ1 HQ2
                  go_wp2
                  go_quiet ((first
                    | (go_at_call 44; exact quiet_same (HQ1.out _ (by repeat (first | exact Dr.refl _ | apply Dr.step | apply Dr.stepd))) (by repeat (first | exact Dr.refl _ | apply Dr.step | apply Dr.stepd)))
                    | (go_at_call 46; exact quiet_same (HQ2.out _ (by repeat (first | exact Dr.refl _ | apply Dr.step | apply Dr.stepd))) (by repeat (first | exact Dr.refl _ | apply Dr.step | apply Dr.stepd)))
                    | (go_at_call 45; exact quiet_same (HQ3.out _ (by repeat (first | exact Dr.refl _ | apply Dr.step | apply Dr.stepd))) (by repeat (first | exact Dr.refl _ | apply Dr.step | apply Dr.stepd)))
                    | (go_at_call 47; exact quiet_same (HQ4.out _ (by repeat (first | exact Dr.refl _ | apply Dr.step | apply Dr.stepd))) (by repeat (first | exact Dr.refl _ | apply Dr.step | apply Dr.stepd)))))
                  go_wp2
                  go_roundw
                  case rel => exact ⟨k + 1, _, _, _, by omega, by go_num, rfl, HML.out, HS8.out.drop.dr (by repeat (first | exact Dr.refl _ | apply Dr.step | apply Dr.stepd))⟩
                  case measure => simp [intOf]; omega
                · have hd : decide (now < L) = false := decide_eq_false hnl
                  rw [show advAt now L = 0 by unfold advAt; rw [if_neg hnl], hd]
                  rw [show max now L = now by omega] at HS8
                  have hmx : max now L = now := by omega
                  clear HAt hd
                  go_wp2_with (go_at_call 46; refine (HRL.out).mono ?_; rintro e w' ⟨rfl, rfl⟩)
                  have HQ1 := hid' fun (wx : World) (hw : Dr w5 wx) => (HS8.out.dr hw).1.least
                  have HQ2 := hid' fun (wx : World) (hw : Dr w5 wx) => (HS8.out.dr hw).refLeast (cp := cA) HML.out hm1
                  have HQ3 := hid' fun (wx : World) (hw : Dr w5 wx) => (HS8.out.dr hw).1.now_
                  have HQ4 := hid' fun (wx : World) (hw : Dr w5 wx) => (HS8.out.dr hw).1.at_ xi
                  rw [show treeKey marks xi = 0 by unfold treeKey; rw [HML.out, if_neg (by rw [HE.out]; simp)]] at HQ4
                  have x1 : (w5).cell? ⟨ba, 1, none⟩ = some (.int .i64 xi) := by simpa using HS8.out.1.e0.cell 1
                  generalize mergeLeast marks iss = L8 at HQ1 HQ2
                  go_wp2
                  go_quiet ((first
                    | (go_at_call 44; exact quiet_same (HQ1.out _ (by repeat (first | exact Dr.refl _ | apply Dr.step | apply Dr.stepd))) (by repeat (first | exact Dr.refl _ | apply Dr.step | apply Dr.stepd)))
                    | (go_at_call 46; exact quiet_same (HQ2.out _ (by repeat (first | exact Dr.refl _ | apply Dr.step | apply Dr.stepd))) (by repeat (first | exact Dr.refl _ | apply Dr.step | apply Dr.stepd)))
                    | (go_at_call 45; exact quiet_same (HQ3.out _ (by repeat (first | exact Dr.refl _ | apply Dr.step | apply Dr.stepd))) (by repeat (first | exact Dr.refl _ | apply Dr.step | apply Dr.stepd)))
                    | (go_at_call 47; exact quiet_same (HQ4.out _ (by repeat (first | exact Dr.refl _ | apply Dr.step | apply Dr.stepd))) (by repeat (first | exact Dr.refl _ | apply Dr.step | apply Dr.stepd)))))
                  go_wp2
                  go_roundw
                  case rel => exact ⟨k + 1, _, _, _, by omega, by go_num, rfl, HML.out, HS8.out.drop.dr (by repeat (first | exact Dr.refl _ | apply Dr.step | apply Dr.stepd))⟩
                  case measure => simp [intOf]; omega
          · obtain ⟨q, rfl⟩ := Int.eq_ofNat_of_zero_le (show 0 ≤ xi by omega)
            have hq0 : (0 : Int) ≤ (q : Int) := by omega
            clear hneg
            by_cases hqm : q < m
            · have HE := hid' (show treeHas m (q : Int) = true from decide_eq_true (by omega))
              have hq1 : (q : Int) < (m : Int) := by omega
              by_cases hkd0 : kd % 3 = 0
              · have hkb0 : (kd % 3 == 0) = true := by rw [beq_iff_eq]; exact hkd0
                clear hkd0
                obtain ⟨y0, hy0⟩ : ∃ y0, marks[q]? = some y0 := ⟨_, List.getElem?_eq_getElem (by have := HML.out; omega)⟩
                obtain ⟨z0, hz0⟩ : ∃ z0, iss[q]? = some z0 := ⟨_, List.getElem?_eq_getElem (by have := HIL.out; omega)⟩
                go_wp2_with fail
                refine (HS1.out.mark (q : Int) xn hxI2).mono ?_
                rintro e w5 ⟨rfl, hS5⟩
                generalize wr.heap.size = ba at *
                rw [show alSet marks (q : Int) xn = marks.set q xn by unfold alSet; rw [if_pos hq0]; simp] at hS5
                rw [HIL.out, HE.out]
                have v1 : w5.cell? ⟨ba, 1, none⟩ = some (.int .i64 (q : Int)) := by simpa using hS5.1.e0.cell 1
                have v2 : w5.cell? ⟨ba, 2, none⟩ = some (.int .i64 xn) := by simpa using hS5.1.e0.cell 2
                obtain ⟨ga, rfl, ⟨o1, o2⟩, f1, f2⟩ := hS5.2.1.2 q y0 z0 hy0 hz0
                have HML := hid' (show (marks.set q xn).length = m by rw [List.length_set]; exact HML.out)
                have HS8 := hid' (hS5.setM q xn)
                clear HS1 hS5 hc0 hc1 hc2 hy0 hz0 o2 f2
                obtain ⟨y, hy⟩ : ∃ y, ((marks.set q xn))[q]? = some y := ⟨_, List.getElem?_eq_getElem (by have := HML.out; omega)⟩
                obtain ⟨z, hz⟩ : ∃ z, (iss)[q]? = some z := ⟨_, List.getElem?_eq_getElem (by have := HML.out; have := HS8.out.2.1.1; omega)⟩
                have hkq : keyOf (marks.set q xn) (q : Int) = y := by
                  have h1 := keyOf_at (keys := (marks.set q xn)) (p := q) (by have := HML.out; omega)
                  rw [hy] at h1; simpa using h1.symm
                have HQ1 := hid' fun (wx : World) (hw : Dr (w5.setCell ⟨ga, q * 2, none⟩ (.int .i64 xn)) wx) => (HS8.out.dr hw).1.least
                have HQ2 := hid' fun (wx : World) (hw : Dr (w5.setCell ⟨ga, q * 2, none⟩ (.int .i64 xn)) wx) => (HS8.out.dr hw).refLeast (cp := cA) HML.out hm1
                have HQ3 := hid' fun (wx : World) (hw : Dr (w5.setCell ⟨ga, q * 2, none⟩ (.int .i64 xn)) wx) => (HS8.out.dr hw).1.now_
                have HQ4 := hid' fun (wx : World) (hw : Dr (w5.setCell ⟨ga, q * 2, none⟩ (.int .i64 xn)) wx) => (HS8.out.dr hw).1.at_ (q : Int)
                rw [show treeKey (marks.set q xn) (q : Int) = y by unfold treeKey; rw [HML.out, if_pos (by rw [HE.out])]; exact hkq] at HQ4
                have x1 : ((w5.setCell ⟨ga, q * 2, none⟩ (.int .i64 xn))).cell? ⟨ba, 1, none⟩ = some (.int .i64 (q : Int)) := by simpa using HS8.out.1.e0.cell 1
                obtain ⟨ga9, e9, ⟨p1, p2⟩, -⟩ := HS8.out.2.1.2 q y z hy hz
                clear hy hz hkq p2
                generalize mergeLeast (marks.set q xn) iss = L8 at HQ1 HQ2
                injection e9 with e9
                injection e9 with e9
                subst e9
                go_wp2
                clear v1 v2 o1 f1
                generalize w5.setCell ⟨ga, q * 2, none⟩ (.int .i64 xn) = w6 at *
                go_quiet ((first
                  | (go_at_call 44; exact quiet_same (HQ1.out _ (by repeat (first | exact Dr.refl _ | apply Dr.step | apply Dr.stepd))) (by repeat (first | exact Dr.refl _ | apply Dr.step | apply Dr.stepd)))
                  | (go_at_call 46; exact quiet_same (HQ2.out _ (by repeat (first | exact Dr.refl _ | apply Dr.step | apply Dr.stepd))) (by repeat (first | exact Dr.refl _ | apply Dr.step | apply Dr.stepd)))
                  | (go_at_call 45; exact quiet_same (HQ3.out _ (by repeat (first | exact Dr.refl _ | apply Dr.step | apply Dr.stepd))) (by repeat (first | exact Dr.refl _ | apply Dr.step | apply Dr.stepd)))
                  | (go_at_call 47; exact quiet_same (HQ4.out _ (by repeat (first | exact Dr.refl _ | apply Dr.step | apply Dr.stepd))) (by repeat (first | exact Dr.refl _ | apply Dr.step | apply Dr.stepd)))))
                go_wp2
                go_roundw
                case rel => exact ⟨k + 1, _, _, _, by omega, by go_num, rfl, HML.out, HS8.out.drop.dr (by repeat (first | exact Dr.refl _ | apply Dr.step | apply Dr.stepd))⟩
                case measure => simp [intOf]; omega
              · have hkb0 : (kd % 3 == 0) = false := by rw [beq_eq_false_iff_ne]; exact hkd0
                by_cases hkd1 : kd % 3 = 1
                · have hkb1 : (kd % 3 == 1) = true := by rw [beq_iff_eq]; exact hkd1
                  clear hkd0 hkd1
                  obtain ⟨y0, hy0⟩ : ∃ y0, marks[q]? = some y0 := ⟨_, List.getElem?_eq_getElem (by have := HML.out; omega)⟩
                  obtain ⟨z0, hz0⟩ : ∃ z0, iss[q]? = some z0 := ⟨_, List.getElem?_eq_getElem (by have := HIL.out; omega)⟩
                  go_wp2_with fail
                  refine (HS1.out.is_ (q : Int) (xn % 4)).mono ?_
                  rintro e w5 ⟨rfl, hS5⟩
                  generalize wr.heap.size = ba at *
                  rw [show alSet iss (q : Int) (xn % 4) = iss.set q (xn % 4) by unfold alSet; rw [if_pos hq0]; simp] at hS5
                  rw [HIL.out, HE.out]
                  have v1 : w5.cell? ⟨ba, 1, none⟩ = some (.int .i64 (q : Int)) := by simpa using hS5.1.e0.cell 1
                  have v2 : w5.cell? ⟨ba, 2, none⟩ = some (.int .i64 xn) := by simpa using hS5.1.e0.cell 2
                  obtain ⟨ga, rfl, ⟨o1, o2⟩, f1, f2⟩ := hS5.2.1.2 q y0 z0 hy0 hz0
                  have HS8 := hid' (hS5.setI q (xn % 4))
                  clear HS1 hS5 hc0 hc1 hc2 hy0 hz0 o1 f1
                  obtain ⟨y, hy⟩ : ∃ y, (marks)[q]? = some y := ⟨_, List.getElem?_eq_getElem (by have := HML.out; omega)⟩
                  obtain ⟨z, hz⟩ : ∃ z, ((iss.set q (xn % 4)))[q]? = some z := ⟨_, List.getElem?_eq_getElem (by have := HML.out; have := HS8.out.2.1.1; omega)⟩
                  have hkq : keyOf marks (q : Int) = y := by
                    have h1 := keyOf_at (keys := marks) (p := q) (by have := HML.out; omega)
                    rw [hy] at h1; simpa using h1.symm
                  have HQ1 := hid' fun (wx : World) (hw : Dr (w5.setCell ⟨ga, q * 2 + 1, none⟩ (.int .i64 (xn % 4))) wx) => (HS8.out.dr hw).1.least
                  have HQ2 := hid' fun (wx : World) (hw : Dr (w5.setCell ⟨ga, q * 2 + 1, none⟩ (.int .i64 (xn % 4))) wx) => (HS8.out.dr hw).refLeast (cp := cA) HML.out hm1
                  have HQ3 := hid' fun (wx : World) (hw : Dr (w5.setCell ⟨ga, q * 2 + 1, none⟩ (.int .i64 (xn % 4))) wx) => (HS8.out.dr hw).1.now_
                  have HQ4 := hid' fun (wx : World) (hw : Dr (w5.setCell ⟨ga, q * 2 + 1, none⟩ (.int .i64 (xn % 4))) wx) => (HS8.out.dr hw).1.at_ (q : Int)
                  rw [show treeKey marks (q : Int) = y by unfold treeKey; rw [HML.out, if_pos (by rw [HE.out])]; exact hkq] at HQ4
                  have x1 : ((w5.setCell ⟨ga, q * 2 + 1, none⟩ (.int .i64 (xn % 4)))).cell? ⟨ba, 1, none⟩ = some (.int .i64 (q : Int)) := by simpa using HS8.out.1.e0.cell 1
                  obtain ⟨ga9, e9, ⟨p1, p2⟩, -⟩ := HS8.out.2.1.2 q y z hy hz
                  clear hy hz hkq p2
                  generalize mergeLeast marks (iss.set q (xn % 4)) = L8 at HQ1 HQ2
                  injection e9 with e9
                  injection e9 with e9
                  subst e9
                  go_wp2
                  clear v1 v2 o2 f2
                  generalize w5.setCell ⟨ga, q * 2 + 1, none⟩ (.int .i64 (xn % 4)) = w6 at *
                  go_quiet ((first
                    | (go_at_call 44; exact quiet_same (HQ1.out _ (by repeat (first | exact Dr.refl _ | apply Dr.step | apply Dr.stepd))) (by repeat (first | exact Dr.refl _ | apply Dr.step | apply Dr.stepd)))
                    | (go_at_call 46; exact quiet_same (HQ2.out _ (by repeat (first | exact Dr.refl _ | apply Dr.step | apply Dr.stepd))) (by repeat (first | exact Dr.refl _ | apply Dr.step | apply Dr.stepd)))
                    | (go_at_call 45; exact quiet_same (HQ3.out _ (by repeat (first | exact Dr.refl _ | apply Dr.step | apply Dr.stepd))) (by repeat (first | exact Dr.refl _ | apply Dr.step | apply Dr.stepd)))
                    | (go_at_call 47; exact quiet_same (HQ4.out _ (by repeat (first | exact Dr.refl _ | apply Dr.step | apply Dr.stepd))) (by repeat (first | exact Dr.refl _ | apply Dr.step | apply Dr.stepd)))))
                  go_wp2
                  go_roundw
                  case rel => exact ⟨k + 1, _, _, _, by omega, by go_num, rfl, HML.out, HS8.out.drop.dr (by repeat (first | exact Dr.refl _ | apply Dr.step | apply Dr.stepd))⟩
                  case measure => simp [intOf]; omega
                · have hkb1 : (kd % 3 == 1) = false := by rw [beq_eq_false_iff_ne]; exact hkd1
                  clear hkd0 hkd1
                  go_wp2_with fail
                  refine (HS1.out.adv).mono ?_
                  rintro e w5 ⟨rfl, hS5⟩
                  generalize wr.heap.size = ba at *
                  have HS8 := hid' hS5
                  have HRL := hid' (hS5.refLeast (cp := cA) HML.out hm1)
                  have HAt := hid' (show advAt now (mergeLeast marks iss) = if now < mergeLeast marks iss then mergeLeast marks iss else 0 from rfl)
                  clear HS1 hS5 hc0 hc1 hc2
                  obtain ⟨L, hL⟩ : ∃ L, L = mergeLeast marks iss := ⟨_, rfl⟩
                  rw [← hL] at HS8 HRL HAt
                  rw [← hL]
                  clear hL
                  by_cases hnl : now < L
                  · have hd : decide (now < L) = true := decide_eq_true hnl
                    rw [show advAt now L = L by unfold advAt; rw [if_pos hnl], hd]
                    rw [show max now L = L by omega] at HS8
                    have hmx : max now L = L := by omega
                    clear HAt hd
                    go_wp2_with (go_at_call 46; refine (HRL.out).mono ?_; rintro e w' ⟨rfl, rfl⟩)
                    obtain ⟨y, hy⟩ : ∃ y, (marks)[q]? = some y := ⟨_, List.getElem?_eq_getElem (by have := HML.out; omega)⟩
                    obtain ⟨z, hz⟩ : ∃ z, (iss)[q]? = some z := ⟨_, List.getElem?_eq_getElem (by have := HML.out; have := HS8.out.2.1.1; omega)⟩
                    have hkq : keyOf marks (q : Int) = y := by
                      have h1 := keyOf_at (keys := marks) (p := q) (by have := HML.out; omega)
                      rw [hy] at h1; simpa using h1.symm
                    have HQ1 := hid' fun (wx : World) (hw : Dr w5 wx) => (HS8.out.dr hw).1.least
                    have HQ2 := hid' fun (wx : World) (hw : Dr w5 wx) => (HS8.out.dr hw).refLeast (cp := cA) HML.out hm1
                    have HQ3 := hid' fun (wx : World) (hw : Dr w5 wx) => (HS8.out.dr hw).1.now_
                    have HQ4 := hid' fun (wx : World) (hw : Dr w5 wx) => (HS8.out.dr hw).1.at_ (q : Int)
                    rw [show treeKey marks (q : Int) = y by unfold treeKey; rw [HML.out, if_pos (by rw [HE.out])]; exact hkq] at HQ4
                    have x1 : (w5).cell? ⟨ba, 1, none⟩ = some (.int .i64 (q : Int)) := by simpa using HS8.out.1.e0.cell 1
                    obtain ⟨ga9, e9, ⟨p1, p2⟩, -⟩ := HS8.out.2.1.2 q y z hy hz
                    clear hy hz hkq p2
                    generalize mergeLeast marks iss = L8 at HQ1 HQ2
                    subst e9
                    go_wp2
                    go_quiet ((first
                      | (go_at_call 44; exact quiet_same (HQ1.out _ (by repeat (first | exact Dr.refl _ | apply Dr.step | apply Dr.stepd))) (by repeat (first | exact Dr.refl _ | apply Dr.step | apply Dr.stepd)))
                      | (go_at_call 46; exact quiet_same (HQ2.out _ (by repeat (first | exact Dr.refl _ | apply Dr.step | apply Dr.stepd))) (by repeat (first | exact Dr.refl _ | apply Dr.step | apply Dr.stepd)))
                      | (go_at_call 45; exact quiet_same (HQ3.out _ (by repeat (first | exact Dr.refl _ | apply Dr.step | apply Dr.stepd))) (by repeat (first | exact Dr.refl _ | apply Dr.step | apply Dr.stepd)))
                      | (go_at_call 47; exact quiet_same (HQ4.out _ (by repeat (first | exact Dr.refl _ | apply Dr.step | apply Dr.stepd))) (by repeat (first | exact Dr.refl _ | apply Dr.step | apply Dr.stepd)))))
                    go_wp2
                    go_roundw
                    case rel => exact ⟨k + 1, _, _, _, by omega, by go_num, rfl, HML.out, HS8.out.drop.dr (by repeat (first | exact Dr.refl _ | apply Dr.step | apply Dr.stepd))⟩
                    case measure => simp [intOf]; omega
                  · have hd : decide (now < L) = false := decide_eq_false hnl
                    rw [show advAt now L = 0 by unfold advAt; rw [if_neg hnl], hd]
                    rw [show max now L = now by omega] at HS8
                    have hmx : max now L = now := by omega
                    clear HAt hd
                    go_wp2_with (go_at_call 46; refine (HRL.out).mono ?_; rintro e w' ⟨rfl, rfl⟩)
                    obtain ⟨y, hy⟩ : ∃ y, (marks)[q]? = some y := ⟨_, List.getElem?_eq_getElem (by have := HML.out; omega)⟩
                    obtain ⟨z, hz⟩ : ∃ z, (iss)[q]? = some z := ⟨_, List.getElem?_eq_getElem (by have := HML.out; have := HS8.out.2.1.1; omega)⟩
                    have hkq : keyOf marks (q : Int) = y := by
                      have h1 := keyOf_at (keys := marks) (p := q) (by have := HML.out; omega)
                      rw [hy] at h1; simpa using h1.symm
                    have HQ1 := hid' fun (wx : World) (hw : Dr w5 wx) => (HS8.out.dr hw).1.least
                    have HQ2 := hid' fun (wx : World) (hw : Dr w5 wx) => (HS8.out.dr hw).refLeast (cp := cA) HML.out hm1
                    have HQ3 := hid' fun (wx : World) (hw : Dr w5 wx) => (HS8.out.dr hw).1.now_
                    have HQ4 := hid' fun (wx : World) (hw : Dr w5 wx) => (HS8.out.dr hw).1.at_ (q : Int)
                    rw [show treeKey marks (q : Int) = y by unfold treeKey; rw [HML.out, if_pos (by rw [HE.out])]; exact hkq] at HQ4
                    have x1 : (w5).cell? ⟨ba, 1, none⟩ = some (.int .i64 (q : Int)) := by simpa using HS8.out.1.e0.cell 1
                    obtain ⟨ga9, e9, ⟨p1, p2⟩, -⟩ := HS8.out.2.1.2 q y z hy hz
                    clear hy hz hkq p2
                    generalize mergeLeast marks iss = L8 at HQ1 HQ2
                    subst e9
                    go_wp2
                    go_quiet ((first
                      | (go_at_call 44; exact quiet_same (HQ1.out _ (by repeat (first | exact Dr.refl _ | apply Dr.step | apply Dr.stepd))) (by repeat (first | exact Dr.refl _ | apply Dr.step | apply Dr.stepd)))
                      | (go_at_call 46; exact quiet_same (HQ2.out _ (by repeat (first | exact Dr.refl _ | apply Dr.step | apply Dr.stepd))) (by repeat (first | exact Dr.refl _ | apply Dr.step | apply Dr.stepd)))
                      | (go_at_call 45; exact quiet_same (HQ3.out _ (by repeat (first | exact Dr.refl _ | apply Dr.step | apply Dr.stepd))) (by repeat (first | exact Dr.refl _ | apply Dr.step | apply Dr.stepd)))
                      | (go_at_call 47; exact quiet_same (HQ4.out _ (by repeat (first | exact Dr.refl _ | apply Dr.step | apply Dr.stepd))) (by repeat (first | exact Dr.refl _ | apply Dr.step | apply Dr.stepd)))))
                    go_wp2
                    go_roundw
                    case rel => exact ⟨k + 1, _, _, _, by omega, by go_num, rfl, HML.out, HS8.out.drop.dr (by repeat (first | exact Dr.refl _ | apply Dr.step | apply Dr.stepd))⟩
                    case measure => simp [intOf]; omega
            · have HE := hid' (show treeHas m (q : Int) = false from decide_eq_false (by omega))
              have hq1 : decide (q < m) = false := decide_eq_false hqm
              by_cases hkd0 : kd % 3 = 0
              · have hkb0 : (kd % 3 == 0) = true := by rw [beq_iff_eq]; exact hkd0
                clear hkd0
                go_wp2_with fail
                refine (HS1.out.mark (q : Int) xn hxI2).mono ?_
                rintro e w5 ⟨rfl, hS5⟩
                generalize wr.heap.size = ba at *
                rw [alSet_out (by rw [HML.out]; exact HE.out)] at hS5
                rw [HIL.out, HE.out]
                have HS8 := hid' hS5
                clear HS1 hS5 hc0 hc1 hc2
                have HQ1 := hid' fun (wx : World) (hw : Dr w5 wx) => (HS8.out.dr hw).1.least
                have HQ2 := hid' fun (wx : World) (hw : Dr w5 wx) => (HS8.out.dr hw).refLeast (cp := cA) HML.out hm1
                have HQ3 := hid' fun (wx : World) (hw : Dr w5 wx) => (HS8.out.dr hw).1.now_
                have HQ4 := hid' fun (wx : World) (hw : Dr w5 wx) => (HS8.out.dr hw).1.at_ (q : Int)
                rw [show treeKey marks (q : Int) = 0 by unfold treeKey; rw [HML.out, if_neg (by rw [HE.out]; simp)]] at HQ4
                have x1 : (w5).cell? ⟨ba, 1, none⟩ = some (.int .i64 (q : Int)) := by simpa using HS8.out.1.e0.cell 1
                generalize mergeLeast marks iss = L8 at HQ1 HQ2
                go_wp2
                go_quiet ((first
                  | (go_at_call 44; exact quiet_same (HQ1.out _ (by repeat (first | exact Dr.refl _ | apply Dr.step | apply Dr.stepd))) (by repeat (first | exact Dr.refl _ | apply Dr.step | apply Dr.stepd)))
                  | (go_at_call 46; exact quiet_same (HQ2.out _ (by repeat (first | exact Dr.refl _ | apply Dr.step | apply Dr.stepd))) (by repeat (first | exact Dr.refl _ | apply Dr.step | apply Dr.stepd)))
                  | (go_at_call 45; exact quiet_same (HQ3.out _ (by repeat (first | exact Dr.refl _ | apply Dr.step | apply Dr.stepd))) (by repeat (first | exact Dr.refl _ | apply Dr.step | apply Dr.stepd)))
                  | (go_at_call 47; exact quiet_same (HQ4.out _ (by repeat (first | exact Dr.refl _ | apply Dr.step | apply Dr.stepd))) (by repeat (first | exact Dr.refl _ | apply Dr.step | apply Dr.stepd)))))
                go_wp2
                go_roundw
                case rel => exact ⟨k + 1, _, _, _, by omega, by go_num, rfl, HML.out, HS8.out.drop.dr (by repeat (first | exact Dr.refl _ | apply Dr.step | apply Dr.stepd))⟩
                case measure => simp [intOf]; omega
              · have hkb0 : (kd % 3 == 0) = false := by rw [beq_eq_false_iff_ne]; exact hkd0
                by_cases hkd1 : kd % 3 = 1
                · have hkb1 : (kd % 3 == 1) = true := by rw [beq_iff_eq]; exact hkd1
                  clear hkd0 hkd1
                  go_wp2_with fail
                  refine (HS1.out.is_ (q : Int) _).mono ?_
                  rintro e w5 ⟨rfl, hS5⟩
                  generalize wr.heap.size = ba at *
                  rw [alSet_out (by rw [HIL.out]; exact HE.out)] at hS5
                  rw [HIL.out, HE.out]
                  have HS8 := hid' hS5
                  clear HS1 hS5 hc0 hc1 hc2
                  have HQ1 := hid' fun (wx : World) (hw : Dr w5 wx) => (HS8.out.dr hw).1.least
                  have HQ2 := hid' fun (wx : World) (hw : Dr w5 wx) => (HS8.out.dr hw).refLeast (cp := cA) HML.out hm1
                  have HQ3 := hid' fun (wx : World) (hw : Dr w5 wx) => (HS8.out.dr hw).1.now_
                  have HQ4 := hid' fun (wx : World) (hw : Dr w5 wx) => (HS8.out.dr hw).1.at_ (q : Int)
                  rw [show treeKey marks (q : Int) = 0 by unfold treeKey; rw [HML.out, if_neg (by rw [HE.out]; simp)]] at HQ4
                  have x1 : (w5).cell? ⟨ba, 1, none⟩ = some (.int .i64 (q : Int)) := by simpa using HS8.out.1.e0.cell 1
                  generalize mergeLeast marks iss = L8 at HQ1 HQ2
                  go_wp2
                  go_quiet ((first
                    | (go_at_call 44; exact quiet_same (HQ1.out _ (by repeat (first | exact Dr.refl _ | apply Dr.step | apply Dr.stepd))) (by repeat (first | exact Dr.refl _ | apply Dr.step | apply Dr.stepd)))
                    | (go_at_call 46; exact quiet_same (HQ2.out _ (by repeat (first | exact Dr.refl _ | apply Dr.step | apply Dr.stepd))) (by repeat (first | exact Dr.refl _ | apply Dr.step | apply Dr.stepd)))
                    | (go_at_call 45; exact quiet_same (HQ3.out _ (by repeat (first | exact Dr.refl _ | apply Dr.step | apply Dr.stepd))) (by repeat (first | exact Dr.refl _ | apply Dr.step | apply Dr.stepd)))
                    | (go_at_call 47; exact quiet_same (HQ4.out _ (by repeat (first | exact Dr.refl _ | apply Dr.step | apply Dr.stepd))) (by repeat (first | exact Dr.refl _ | apply Dr.step | apply Dr.stepd)))))
                  go_wp2
                  go_roundw
                  case rel => exact ⟨k + 1, _, _, _, by omega, by go_num, rfl, HML.out, HS8.out.drop.dr (by repeat (first | exact Dr.refl _ | apply Dr.step | apply Dr.stepd))⟩
                  case measure => simp [intOf]; omega
                · have hkb1 : (kd % 3 == 1) = false := by rw [beq_eq_false_iff_ne]; exact hkd1
                  clear hkd0 hkd1
                  go_wp2_with fail
                  refine (HS1.out.adv).mono ?_
                  rintro e w5 ⟨rfl, hS5⟩
                  generalize wr.heap.size = ba at *
                  have HS8 := hid' hS5
                  have HRL := hid' (hS5.refLeast (cp := cA) HML.out hm1)
                  have HAt := hid' (show advAt now (mergeLeast marks iss) = if now < mergeLeast marks iss then mergeLeast marks iss else 0 from rfl)
                  clear HS1 hS5 hc0 hc1 hc2
                  obtain ⟨L, hL⟩ : ∃ L, L = mergeLeast marks iss := ⟨_, rfl⟩
                  rw [← hL] at HS8 HRL HAt
                  rw [← hL]
                  clear hL
                  by_cases hnl : now < L
                  · have hd : decide (now < L) = true := decide_eq_true hnl
                    rw [show advAt now L = L by unfold advAt; rw [if_pos hnl], hd]
                    rw [show max now L = L by omega] at HS8
                    have hmx : max now L = L := by omega
                    clear HAt hd
                    go_wp2_with (go_at_call 46; refine (HRL.out).mono ?_; rintro e w' ⟨rfl, rfl⟩)
                    have HQ1 := hid' fun (wx : World) (hw : Dr w5 wx) => (HS8.out.dr hw).1.least
                    have HQ2 := hid' fun (wx : World) (hw : Dr w5 wx) => (HS8.out.dr hw).refLeast (cp := cA) HML.out hm1
                    have HQ3 := hid' fun (wx : World) (hw : Dr w5 wx) => (HS8.out.dr hw).1.now_
                    have HQ4 := hid' fun (wx : World) (hw : Dr w5 wx) => (HS8.out.dr hw).1.at_ (q : Int)
                    rw [show treeKey marks (q : Int) = 0 by unfold treeKey; rw [HML.out, if_neg (by rw [HE.out]; simp)]] at HQ4
                    have x1 : (w5).cell? ⟨ba, 1, none⟩ = some (.int .i64 (q : Int)) := by simpa using HS8.out.1.e0.cell 1
                    generalize mergeLeast marks iss = L8 at HQ1 HQ2
                    go_wp2
                    go_quiet ((first
                      | (go_at_call 44; exact quiet_same (HQ1.out _ (by repeat (first | exact Dr.refl _ | apply Dr.step | apply Dr.stepd))) (by repeat (first | exact Dr.refl _ | apply Dr.step | apply Dr.stepd)))
                      | (go_at_call 46; exact quiet_same (HQ2.out _ (by repeat (first | exact Dr.refl _ | apply Dr.step | apply Dr.stepd))) (by repeat (first | exact Dr.refl _ | apply Dr.step | apply Dr.stepd)))
                      | (go_at_call 45; exact quiet_same (HQ3.out _ (by repeat (first | exact Dr.refl _ | apply Dr.step | apply Dr.stepd))) (by repeat (first | exact Dr.refl _ | apply Dr.step | apply Dr.stepd)))
                      | (go_at_call 47; exact quiet_same (HQ4.out _ (by repeat (first | exact Dr.refl _ | apply Dr.step | apply Dr.stepd))) (by repeat (first | exact Dr.refl _ | apply Dr.step | apply Dr.stepd)))))
                    go_wp2
                    go_roundw
                    case rel => exact ⟨k + 1, _, _, _, by omega, by go_num, rfl, HML.out, HS8.out.drop.dr (by repeat (first | exact Dr.refl _ | apply Dr.step | apply Dr.stepd))⟩
                    case measure => simp [intOf]; omega
                  · have hd : decide (now < L) = false := decide_eq_false hnl
                    rw [show advAt now L = 0 by unfold advAt; rw [if_neg hnl], hd]
                    rw [show max now L = now by omega] at HS8
                    have hmx : max now L = now := by omega
                    clear HAt hd
                    go_wp2_with (go_at_call 46; refine (HRL.out).mono ?_; rintro e w' ⟨rfl, rfl⟩)
                    have HQ1 := hid' fun (wx : World) (hw : Dr w5 wx) => (HS8.out.dr hw).1.least
                    have HQ2 := hid' fun (wx : World) (hw : Dr w5 wx) => (HS8.out.dr hw).refLeast (cp := cA) HML.out hm1
                    have HQ3 := hid' fun (wx : World) (hw : Dr w5 wx) => (HS8.out.dr hw).1.now_
                    have HQ4 := hid' fun (wx : World) (hw : Dr w5 wx) => (HS8.out.dr hw).1.at_ (q : Int)
                    rw [show treeKey marks (q : Int) = 0 by unfold treeKey; rw [HML.out, if_neg (by rw [HE.out]; simp)]] at HQ4
                    have x1 : (w5).cell? ⟨ba, 1, none⟩ = some (.int .i64 (q : Int)) := by simpa using HS8.out.1.e0.cell 1
                    generalize mergeLeast marks iss = L8 at HQ1 HQ2
                    go_wp2
                    go_quiet ((first
                      | (go_at_call 44; exact quiet_same (HQ1.out _ (by repeat (first | exact Dr.refl _ | apply Dr.step | apply Dr.stepd))) (by repeat (first | exact Dr.refl _ | apply Dr.step | apply Dr.stepd)))
                      | (go_at_call 46; exact quiet_same (HQ2.out _ (by repeat (first | exact Dr.refl _ | apply Dr.step | apply Dr.stepd))) (by repeat (first | exact Dr.refl _ | apply Dr.step | apply Dr.stepd)))
                      | (go_at_call 45; exact quiet_same (HQ3.out _ (by repeat (first | exact Dr.refl _ | apply Dr.step | apply Dr.stepd))) (by repeat (first | exact Dr.refl _ | apply Dr.step | apply Dr.stepd)))
                      | (go_at_call 47; exact quiet_same (HQ4.out _ (by repeat (first | exact Dr.refl _ | apply Dr.step | apply Dr.stepd))) (by repeat (first | exact Dr.refl _ | apply Dr.step | apply Dr.stepd)))))
                    go_wp2
                    go_roundw
                    case rel => exact ⟨k + 1, _, _, _, by omega, by go_num, rfl, HML.out, HS8.out.drop.dr (by repeat (first | exact Dr.refl _ | apply Dr.step | apply Dr.stepd))⟩
                    case measure => simp [intOf]; omega
        · go_wp2
          go_ret
          exact ⟨rfl, bel_then HB.out hS.1.below⟩
end Go.Proofs.Ytnihefhnffnjoaa
