
/- The first law of layer 17 (merge), walked. No condition. -/
import Derived.Test.YtnihefhnffnjoaaMergeNew
import Derived.Test.YtnihefhnffnjoaaCells
import Derived.Test.YtnihefhnffnjoaaLawTreeC
namespace Go.Proofs.Ytnihefhnffnjoaa
open Go.RowKit
set_option linter.unusedVariables false

/-- A merge; other blocks that stay. -/
def SM (w0 w : World) (lo hi m : Nat) (marks iss : List Int) (now : Int) (ex : Ex6) : Prop :=
  Below w0.heap.size w0 w ∧ w0.heap.size ≤ lo ∧ hi ≤ w.heap.size ∧ IsMerge w lo hi m marks iss now ∧ Keep w ex (fun k => lo ≤ k ∧ k < hi)
section
variable {w0 w : World} {lo hi m : Nat} {marks iss : List Int} {now : Int} {ex : Ex6}
theorem SM.bel {w' : World} (h : SM w0 w lo hi m marks iss now ex) (hb : Below w.heap.size w w') : SM w0 w' lo hi m marks iss now ex := by
  obtain ⟨h1, h2, h3, h4, h5⟩ := h
  have hm : Mod (fun _ => False) w w' := Mod.of_below hb
  exact ⟨bel_then h1 hb, h2, Nat.le_trans h3 hb.size, h4.mod hm (fun _ _ _ h => h), h5.mod hm (fun _ h => h.elim)⟩
theorem SM.dr {w' : World} (h : SM w0 w lo hi m marks iss now ex) (hb : Dr w w') : SM w0 w' lo hi m marks iss now ex := h.bel hb.below
theorem SM.addE (h : SM w0 w lo hi m marks iss now ex) {k : Nat} {T : TypeId} {cs : Array Value} (hb : Blk w k T cs) (hn : k < lo ∨ hi ≤ k) : SM w0 w lo hi m marks iss now ((k, T, cs) :: ex) := by
  obtain ⟨h1, h2, h3, h4, h5⟩ := h
  exact ⟨h1, h2, h3, h4, fun x hx => by rcases List.mem_cons.1 hx with rfl | hx; exact ⟨hb, by show ¬ (lo ≤ k ∧ k < hi); omega⟩; exact h5 x hx⟩
theorem SM.alloc (h : SM w0 w lo hi m marks iss now ex) (T : TypeId) (cs : Array Value) : SM w0 (w.alloc (.cells cs T)) lo hi m marks iss now ((w.heap.size, T, cs) :: ex) :=
  (h.bel (bel_alloc (bel_refl w) _)).addE (Blk.new_ w T cs) (.inr h.2.2.1)
theorem SM.mark (i x : Int) (h : SM w0 w lo hi m marks iss now ex) (hx : I64 x) :
    Calls Try.prog 41 #[.pointer (some ⟨m, 0, none⟩), .int .i64 i, .int .i64 x] w fun e w' => e = .returned (.bool (treeHas iss.length i)) ∧ SM w0 w' lo hi m (alSet marks i x) iss now ex ∧ Mod (fun k => lo ≤ k ∧ k < hi) w w' := by
  obtain ⟨h1, h2, h3, h4, h5⟩ := h
  refine (merge_Mark lo hi m marks iss now i x w h4 hx).mono ?_
  rintro e w' ⟨he, ht, hm⟩
  exact ⟨he, ⟨bel_mod h1 hm (by intro i hi; omega), h2, Nat.le_trans h3 hm.size, ht, h5.mod hm (fun _ h => h)⟩, hm⟩
theorem SM.is_ (i x : Int) (h : SM w0 w lo hi m marks iss now ex) :
    Calls Try.prog 42 #[.pointer (some ⟨m, 0, none⟩), .int .i64 i, .int .i64 x] w fun e w' => e = .returned (.bool (treeHas iss.length i)) ∧ SM w0 w' lo hi m marks (alSet iss i x) now ex ∧ Mod (fun k => lo ≤ k ∧ k < hi) w w' := by
  obtain ⟨h1, h2, h3, h4, h5⟩ := h
  refine (merge_Is lo hi m marks iss now i x w h4).mono ?_
  rintro e w' ⟨he, ht, hm⟩
  exact ⟨he, ⟨bel_mod h1 hm (by intro i hi; omega), h2, Nat.le_trans h3 hm.size, ht, h5.mod hm (fun _ h => h)⟩, hm⟩
theorem SM.adv (h : SM w0 w lo hi m marks iss now ex) :
    Calls Try.prog 43 #[.pointer (some ⟨m, 0, none⟩)] w fun e w' => e = .returned (.tuple #[.int .i64 (advAt now (mergeLeast marks iss)), .bool (decide (now < mergeLeast marks iss))]) ∧
      SM w0 w' lo hi m marks iss (max now (mergeLeast marks iss)) ex ∧ Mod (fun k => lo ≤ k ∧ k < hi) w w' := by
  obtain ⟨h1, h2, h3, h4, h5⟩ := h
  refine (merge_Advance lo hi m marks iss now w h4).mono ?_
  rintro e w' ⟨he, ht, hm⟩
  exact ⟨he, ⟨bel_mod h1 hm (by intro i hi; omega), h2, Nat.le_trans h3 hm.size, ht, h5.mod hm (fun _ h => h)⟩, hm⟩
theorem SM.at_ (i : Int) (h : SM w0 w lo hi m marks iss now ex) :
    Calls Try.prog 47 #[.pointer (some ⟨m, 0, none⟩), .int .i64 i] w fun e w' => e = .returned (.int .i64 (treeKey marks i)) ∧ w = w' := merge_At lo hi m marks iss now i w h.2.2.2.1
theorem SM.now_ (h : SM w0 w lo hi m marks iss now ex) :
    Calls Try.prog 45 #[.pointer (some ⟨m, 0, none⟩)] w fun e w' => e = .returned (.int .i64 now) ∧ w = w' := merge_Now lo hi m marks iss now w h.2.2.2.1
theorem SM.least (h : SM w0 w lo hi m marks iss now ex) :
    Calls Try.prog 44 #[.pointer (some ⟨m, 0, none⟩)] w fun e w' => e = .returned (.int .i64 (mergeLeast marks iss)) ∧ w = w' := merge_Least lo hi m marks iss now w h.2.2.2.1
theorem SM.new_ (n : Int) (hB : Below w0.heap.size w0 w) (hn : n ≤ 1000) :
    Calls Try.prog 40 #[.int .i64 n] w fun e w' => ∃ lo hi g, e = .returned (.pointer (some ⟨g, 0, none⟩)) ∧ SM w0 w' lo hi g (List.replicate n.toNat NEV) (List.replicate n.toNat 0) NEV [] :=
  (merge_New n w hn).mono fun e w' ⟨g, he, h1, h2⟩ => ⟨_, _, g, he, bel_then hB h2, hB.size, Nat.le_refl _, h1, Keep.nil _ _⟩
theorem SM.below (h : SM w0 w lo hi m marks iss now ex) : Below w0.heap.size w0 w := h.1
theorem SM.e0 {k : Nat} {T : TypeId} {cs : Array Value} (h : SM w0 w lo hi m marks iss now ((k, T, cs) :: ex)) : Blk w k T cs := (h.2.2.2.2 _ (List.mem_cons_self ..)).1
theorem SM.drop (h : SM w0 w lo hi m marks iss now ex) : SM w0 w lo hi m marks iss now [] := by
  obtain ⟨h1, h2, h3, h4, h5⟩ := h
  exact ⟨h1, h2, h3, h4, Keep.nil _ _⟩
theorem SM.nowI (h : SM w0 w lo hi m marks iss now ex) : I64 now := by
  obtain ⟨a, s, t0, l0, h0, t1, l1, h1, bi, hB, rfl, hr, hx⟩ := h.2.2.2.1
  exact I64.clNow hB.2.2.2.2.2.2.2
end

theorem law17_speaks (w : World) : Calls Try.prog 39 #[] w fun e w' => e = .returned (.bool true) ∧ Below w.heap.size w w' := by
  have e1 : mergeLeast [NEV, NEV] [0, 0] = -9223372036854775808 := by decide
  have e2 : mergeLeast (alSet (alSet [NEV, NEV] 0 5) 1 9) (alSet [0, 0] 0 1) = 9 := by decide
  have e3 : mergeLeast (alSet (alSet [NEV, NEV] 0 5) 1 9) (alSet (alSet [0, 0] 0 1) 1 1) = 5 := by decide
  have e4 : mergeLeast (alSet (alSet [NEV, NEV] 0 5) 1 9) (alSet (alSet (alSet (alSet [0, 0] 0 1) 1 1) 0 2) 1 3) = 9223372036854775807 := by decide
  go_enter Try.func39, Try.ntmps39
  go_wp2_with fail
  refine (SM.new_ (w0 := w) 2 (bel_refl w) (by omega)).mono ?_
  rintro e w1 ⟨lo, hi, g, rfl, hS⟩
  have hS0 := hS
  clear hS
  go_wp2_with (first
    | (go_at_call 41; refine (SM.mark _ _ (by assumption) ?_).mono ?_; (unfold I64; omega); rintro e w' ⟨rfl, hS, -⟩)
    | (go_at_call 42; refine (SM.is_ _ _ (by assumption)).mono ?_; rintro e w' ⟨rfl, hS, -⟩)
    | (go_at_call 44; refine (SM.least (by assumption)).mono ?_; rintro e w' ⟨rfl, rfl⟩)
    | (go_at_call 45; refine (SM.now_ (by assumption)).mono ?_; rintro e w' ⟨rfl, rfl⟩))
  go_ret
  exact ⟨ret_bool (by decide), hS.below⟩

theorem alSet_get0 {l : List Int} {i : Int} (h : 1 ≤ i) (x : Int) : (alSet l i x)[0]? = l[0]? := by
  unfold alSet
  rw [if_pos (by omega), List.getElem?_set_ne (by omega)]
theorem innOf_out {iss : List Int} {c : Int} {j : Nat} {x : Int} (h : iss[j]? = some x) : innOf (outOf c iss) j = (x == c) := by
  unfold innOf outOf
  rw [List.getD_eq_getElem?_getD, List.getElem?_map, h]
  simp [bne]
/-- One that is active is no less than the least. -/
theorem mergeLeast_le {marks iss : List Int} {x : Int} (h0 : marks[0]? = some x) (h1 : iss[0]? = some 0) : mergeLeast marks iss ≤ x := by
  have hl := (List.getElem?_eq_some_iff.1 h0).1
  have hin := innOf_out (c := 0) h1
  rcases best_spec (keyOf marks) (innOf (outOf 0 iss)) marks.length with ⟨_, hb⟩ | ⟨q, hb, hq, hqn, hmin⟩
  · have := hb 0 hl; rw [hin] at this; simp at this
  · have hkey : keyOf marks (q : Int) ≤ keyOf marks ((0 : Nat) : Int) := hmin 0 hl (by rw [hin]; rfl)
    have hk0 := keyOf_at hl
    rw [h0] at hk0
    have hk1 : keyOf marks ((0 : Nat) : Int) = x := by simpa using hk0.symm
    have hb' : treeBest marks (outOf 0 iss) = (q : Int) := hb
    have e1 : treeLO marks (outOf 0 iss) = true := by unfold treeLO; rw [hb']; simp
    have e2 : treeLK marks (outOf 0 iss) = keyOf marks (q : Int) := by unfold treeLK; rw [hb', if_neg (by omega)]
    unfold mergeLeast
    rw [if_pos e1, e2]
    omega
theorem mergeLeast_one {marks iss : List Int} {x : Int} (h0 : marks[0]? = some x) (h1 : iss[0]? = some 0) (h2 : ∀ j y, 0 < j → iss[j]? = some y → y ≠ 0) : mergeLeast marks iss = x := by
  have hl := (List.getElem?_eq_some_iff.1 h0).1
  have hin := innOf_out (c := 0) h1
  rcases best_spec (keyOf marks) (innOf (outOf 0 iss)) marks.length with ⟨_, hb⟩ | ⟨q, hb, hq, hqn, hmin⟩
  · have := hb 0 hl; rw [hin] at this; simp at this
  · have hq0 : q = 0 := by
      rcases Nat.eq_zero_or_pos q with h | h
      · exact h
      · have hlt := innOf_lt hqn
        unfold outOf at hlt
        rw [List.length_map] at hlt
        have hy : iss[q]? = some iss[q] := List.getElem?_eq_getElem hlt
        have := h2 q _ h hy
        rw [innOf_out (c := 0) hy] at hqn
        simp at hqn
        exact absurd hqn this
    subst hq0
    have hk0 := keyOf_at hl
    rw [h0] at hk0
    have hk1 : keyOf marks ((0 : Nat) : Int) = x := by simpa using hk0.symm
    have hb' : treeBest marks (outOf 0 iss) = ((0 : Nat) : Int) := hb
    have e1 : treeLO marks (outOf 0 iss) = true := by unfold treeLO; rw [hb']; rfl
    have e2 : treeLK marks (outOf 0 iss) = keyOf marks ((0 : Nat) : Int) := by unfold treeLK; rw [hb', if_neg (by omega)]
    unfold mergeLeast
    rw [if_pos e1, e2, hk1]
theorem tmod4 (a : Int) : -3 ≤ a.tmod 4 ∧ a.tmod 4 ≤ 3 := by
  constructor
  · have := Int.lt_tmod_of_pos a (show (0 : Int) < 4 by omega); omega
  · have := Int.tmod_lt_of_pos a (show (0 : Int) < 4 by omega); omega
def RAct17 (w : World) (cs : List Value) (x : Int × Int × Int) : Prop := cs.length = 3 ∧ RInt .u8 w ((cs.drop 0).take 1) x.1 ∧ RInt .i64 w ((cs.drop 1).take 1) x.2.1 ∧ RInt .i64 w ((cs.drop 2).take 1) x.2.2
theorem RAct17.cells {w : World} {cs : List Value} {x : Int × Int × Int} (h : RAct17 w cs x) : cs = [.int .u8 x.1, .int .i64 x.2.1, .int .i64 x.2.2] ∧ (0 ≤ x.1 ∧ x.1 < 256) ∧ I64 x.2.1 ∧ I64 x.2.2 := by
  obtain ⟨hl, ⟨h0, w0⟩, ⟨h1, w1⟩, ⟨h2, w2⟩⟩ := h
  match cs, hl with
  | [a, b, c], _ =>
    simp at h0 h1 h2
    subst h0 h1 h2
    exact ⟨rfl, wf_u8 w0, I64.of_wf w1, I64.of_wf w2⟩
def fAct17 (x : Int × Int × Int) : List Value := [.int .u8 x.1, .int .i64 x.2.1, .int .i64 x.2.2]

set_option maxRecDepth 100000 in
set_option maxHeartbeats 4000000 in
theorem mergeHolds (mark : Int) (A : Option Addr) (cp : Nat) (l : List (Int × Int × Int)) (w : World) (hmk : (Lit.int .i64 mark).wf = true)
    (hr : ∀ j x, l[j]? = some x → ∃ ad row, A = some ad ∧ RAct17 w row x ∧ row.length = 3 ∧ ∀ i u, row[i]? = some u → w.cell? ((ad.add (j * 3)).add i) = some u) (hn : l.length ≤ maxLen) :
    Calls Try.prog 9 #[.int .i64 mark, .slice A l.length cp] w fun e w' => e = .returned (.bool true) ∧ Below w.heap.size w w' := by
  have hn' : l.length ≤ 9223372036854775807 := hn
  have hmI := I64.of_wf hmk
  have HR := hid' (show RdS w A 3 fAct17 l from fun j x hj => by
    obtain ⟨ad, row, e, ha, hl, hc⟩ := hr j x hj
    obtain ⟨rfl, _, _⟩ := ha.cells
    exact ⟨ad, e, rfl, hc⟩)
  have HL := hid' (show ∀ (j : Nat) (x : Int × Int × Int), l[j]? = some x → (0 ≤ x.1 ∧ x.1 < 256) ∧ I64 x.2.1 ∧ I64 x.2.2 from fun j x hj => by
    obtain ⟨ad, row, e, ha, hl, hc⟩ := hr j x hj
    exact ha.cells.2)
  clear hr hmk hn
  go_enter Try.func9, Try.ntmps9
  go_wp2_with fail
  refine (law17_speaks w).mono ?_
  rintro e w1 ⟨rfl, hB⟩
  by_cases hl0 : 200 < l.length
  · go_wp2
    go_ret
    exact ⟨rfl, hB⟩
  by_cases hne : mark = -9223372036854775808
  · have h0 : decide (200 < l.length) = false := decide_eq_false hl0
    subst hne
    go_wp2
    go_ret
    exact ⟨rfl, hB⟩
  have hne' : (mark == -9223372036854775808) = false := by rw [beq_eq_false_iff_ne]; exact hne
  have HR1 := hid' (HR.out.below hB)
  have HB := hid' hB
  clear HR hB hne
  go_wp2_with fail
  refine (SM.new_ (w0 := w1) 5 (bel_refl _) (by omega)).mono ?_
  rintro e w2 ⟨lo, hi, g, rfl, hS⟩
  go_wp2_with fail
  refine (SM.mark 0 mark hS hmI).mono ?_
  rintro e w3 ⟨rfl, hS3, -⟩
  have HS := hid' (show SM w1 w3 lo hi g [mark, NEV, NEV, NEV, NEV] [0, 0, 0, 0, 0] NEV [] from hS3)
  clear hS hS3
  go_wp2
  go_loopw [25] (fun v25 wr => ∃ (k : Nat) (marks iss : List Int) (now : Int), k ≤ l.length ∧ v25 = .int .i64 k ∧ SM w1 wr lo hi g marks iss now [] ∧ Hid (marks[0]? = some mark ∧ iss[0]? = some 0 ∧ now ≤ mark ∧ iss.length = 5)) (fun v25 _ => l.length - (intOf v25).toNat)
  case atStart => exact ⟨0, _, _, _, by omega, rfl, HS.out, ⟨rfl, rfl, by unfold I64 at hmI; unfold NEV; omega, rfl⟩⟩
  case round =>
    obtain ⟨k, marks, iss, now, hk, rfl, hS, HI⟩ := hrel
    by_cases hlt : k < l.length
    · obtain ⟨x, hx⟩ : ∃ x, l[k]? = some x := ⟨_, List.getElem?_eq_getElem hlt⟩
      obtain ⟨ad, rfl, -, hc⟩ := HR1.out.below hS.below k x hx
      obtain ⟨⟨hk0, hk1⟩, hxI, hxI2⟩ := HL.out k x hx
      obtain ⟨kd, xi, xn⟩ := x
      dsimp only at hk0 hk1 hxI hxI2
      have hc0 : wr.cell? (ad.add (k * 3)) = some (.int .u8 kd) := hc 0 _ rfl
      have hc1 : wr.cell? ⟨(ad.add (k * 3)).block, (ad.add (k * 3)).off + 1, none⟩ = some (.int .i64 xi) := hc 1 _ rfl
      have hc2 : wr.cell? ⟨(ad.add (k * 3)).block, (ad.add (k * 3)).off + 2, none⟩ = some (.int .i64 xn) := hc 2 _ rfl
      have ht4 := tmod4 xi
      obtain ⟨t, ht⟩ : ∃ t, xi.tmod 4 = t := ⟨_, rfl⟩
      rw [ht] at ht4
      obtain ⟨t0, t1⟩ := ht4
      clear hc hx
      have hS1 := hS.alloc 68 #[.int .u8 kd, .int .i64 xi, .int .i64 xn]
      have HS0 := hid' hS
      clear hS
      have b1 : mergeLeast (alSet marks (1 + t % 4) xn) iss ≤ mark := mergeLeast_le (by rw [alSet_get0 (by omega)]; exact HI.out.1) HI.out.2.1
      have b2' : ∀ y, mergeLeast marks (alSet iss (1 + t % 4) y) ≤ mark := fun y => mergeLeast_le HI.out.1 (by rw [alSet_get0 (by omega)]; exact HI.out.2.1)
      have b2 := b2' (xn % 256 % 4)
      have b3 := b2' (xn % 4)
      have b4 : mergeLeast marks iss ≤ mark := mergeLeast_le HI.out.1 HI.out.2.1
      have b5 : now ≤ mark := HI.out.2.2.1
      have b6 : max now (mergeLeast marks iss) ≤ mark := by omega
      clear b2'
      go_wp2_with (first
        | (go_at_call 41; refine (SM.mark _ _ (by assumption) ?_).mono ?_; assumption; rintro e w' ⟨rfl, hS, -⟩)
        | (go_at_call 42; refine (SM.is_ _ _ (by assumption)).mono ?_; rintro e w' ⟨rfl, hS, -⟩)
        | (go_at_call 43; refine (SM.adv (by assumption)).mono ?_; rintro e w' ⟨rfl, hS, -⟩)
        | (go_at_call 44; refine (SM.least (by assumption)).mono ?_; rintro e w' ⟨rfl, rfl⟩)
        | (go_at_call 45; refine (SM.now_ (by assumption)).mono ?_; rintro e w' ⟨rfl, rfl⟩))
      · go_roundw
        case rel => exact ⟨k + 1, _, _, _, by omega, by go_num, hS.drop, by rw [alSet_get0 (by omega)]; exact HI.out.1, HI.out.2.1, b5, HI.out.2.2.2⟩
        case measure => simp [intOf]; omega
      · go_roundw
        case rel => exact ⟨k + 1, _, _, _, by omega, by go_num, hS.drop, HI.out.1, by rw [alSet_get0 (by omega)]; exact HI.out.2.1, b5, by rw [alSet_len]; exact HI.out.2.2.2⟩
        case measure => simp [intOf]; omega
      · go_roundw
        case rel => exact ⟨k + 1, _, _, _, by omega, by go_num, hS.drop, HI.out.1, HI.out.2.1, b6, HI.out.2.2.2⟩
        case measure => simp [intOf]; omega
    · have HS4 := hid' hS
      clear hS
      go_wp2
      go_loopw [68] (fun v68 wr => ∃ (i : Nat) (iss2 : List Int), i ≤ 4 ∧ v68 = .int .i64 i ∧ SM w1 wr lo hi g marks iss2 now [] ∧ Hid (iss2[0]? = some 0 ∧ iss2.length = 5 ∧ ∀ j y, 0 < j → j ≤ i → iss2[j]? = some y → y = 2)) (fun v68 _ => 4 - (intOf v68).toNat)
      case atStart => exact ⟨0, iss, by omega, rfl, HS4.out, HI.out.2.1, HI.out.2.2.2, fun j y h1 h2 => by omega⟩
      case round =>
        obtain ⟨i, iss2, hi', rfl, hS, HJ⟩ := hrel
        have HS5 := hid' hS
        clear hS
        by_cases hlt2 : i < 4
        · go_wp2_with fail
          refine (SM.is_ ((i : Int) + 1) 2 HS5.out).mono ?_
          rintro e w7 ⟨rfl, hS, -⟩
          have HS6 := hid' hS
          clear hS
          go_wp2
          go_roundw
          case rel =>
            refine ⟨i + 1, _, by omega, by go_num, HS6.out, by rw [alSet_get0 (by omega)]; exact HJ.out.1, by rw [alSet_len]; exact HJ.out.2.1, fun j y h1 h2 hy => ?_⟩
            unfold alSet at hy
            rw [if_pos (by omega), show ((i : Int) + 1).toNat = i + 1 by omega, List.getElem?_set] at hy
            split at hy
            · split at hy
              · simpa using hy.symm
              · cases hy
            · exact HJ.out.2.2 j y h1 (by omega) hy
          case measure => simp [intOf]; omega
        · have HE := hid' (mergeLeast_one (marks := marks) (iss := iss2) HI.out.1 HJ.out.1 (fun j y h1 hy => by
            have hlt := (List.getElem?_eq_some_iff.1 hy).1
            have h5 := HJ.out.2.1
            have := HJ.out.2.2 j y h1 (by omega) hy
            omega))
          have HLe := hid' HS5.out.least
          rw [HE.out] at HLe
          go_wp2_with (go_at_call 44; refine (HLe.out).mono ?_; rintro e w' ⟨rfl, rfl⟩)
          go_ret
          exact ⟨rfl, bel_then HB.out HS5.out.below⟩
end Go.Proofs.Ytnihefhnffnjoaa
