
/- Who is least isn't held back, walked. No condition. -/
import Derived.Test.YtnihefhnffnjoaaLawMergeC
import Derived.Test.YtnihefhnffnjoaaLawAlignB
namespace Go.Proofs.Ytnihefhnffnjoaa
open Go.RowKit
set_option linter.unusedVariables false

theorem SM.modS {w0 w w' : World} {lo hi m : Nat} {marks iss : List Int} {now : Int} {ex : Ex6} {S : Nat → Prop} (h : SM w0 w lo hi m marks iss now ex) (hm : Mod S w w') (h0 : ∀ k, S k → w0.heap.size ≤ k) (h1 : ∀ k, lo ≤ k → k < hi → ¬ S k) (h2 : ∀ x ∈ ex, ¬ S x.1) : SM w0 w' lo hi m marks iss now ex := by
  obtain ⟨g1, g2, g3, g4, g5⟩ := h
  exact ⟨bel_mod g1 hm (by intro i hi hs; have := h0 i hs; omega), g2, Nat.le_trans g3 hm.size, g4.mod hm h1, fun x hx => ⟨(g5 x hx).1.mod hm (h2 x hx), (g5 x hx).2⟩⟩
/-- A merge, one that holds back, and the law's row. -/
def S9 (w0 w : World) (lo hi g : Nat) (marks iss : List Int) (now : Int) (ga ba : Nat) (drift G : Int) (L : List Int) (bs : Nat) (R : List Int) (ex : Ex6) : Prop :=
  SM w0 w lo hi g marks iss now ((bs, 3, (R.map (Value.int .i64)).toArray) :: ex) ∧ AlignB w ga ba drift G L ∧ (w0.heap.size ≤ ga ∧ w0.heap.size ≤ ba ∧ w0.heap.size ≤ bs) ∧ ((ga < lo ∨ hi ≤ ga) ∧ (ba < lo ∨ hi ≤ ba) ∧ (bs < lo ∨ hi ≤ bs)) ∧ (ga ≠ bs ∧ ba ≠ bs) ∧
  (∀ x ∈ ex, x.1 ≠ ga ∧ x.1 ≠ ba ∧ x.1 ≠ bs) ∧ L.length ≤ 1000
section
variable {w0 w : World} {lo hi g ga ba bs : Nat} {marks iss L R : List Int} {now drift G : Int} {ex : Ex6}
theorem S9.stepM {marks' iss' : List Int} {now' : Int} {w' : World} (h : S9 w0 w lo hi g marks iss now ga ba drift G L bs R ex) (hs : SM w0 w' lo hi g marks' iss' now' ((bs, 3, (R.map (Value.int .i64)).toArray) :: ex)) (hm : Mod (fun k => lo ≤ k ∧ k < hi) w w') : S9 w0 w' lo hi g marks' iss' now' ga ba drift G L bs R ex := by
  obtain ⟨h1, h2, h3, h4, h5, h6, h7⟩ := h
  exact ⟨hs, h2.mod hm (by omega) (by omega), h3, h4, h5, h6, h7⟩
theorem S9.mark (i x : Int) (h : S9 w0 w lo hi g marks iss now ga ba drift G L bs R ex) (hx : I64 x) :
    Calls Try.prog 41 #[.pointer (some ⟨g, 0, none⟩), .int .i64 i, .int .i64 x] w fun e w' => e = .returned (.bool (treeHas iss.length i)) ∧ S9 w0 w' lo hi g (alSet marks i x) iss now ga ba drift G L bs R ex :=
  (h.1.mark i x hx).mono fun e w' ⟨he, hs, hm⟩ => ⟨he, h.stepM hs hm⟩
theorem S9.is_ (i x : Int) (h : S9 w0 w lo hi g marks iss now ga ba drift G L bs R ex) :
    Calls Try.prog 42 #[.pointer (some ⟨g, 0, none⟩), .int .i64 i, .int .i64 x] w fun e w' => e = .returned (.bool (treeHas iss.length i)) ∧ S9 w0 w' lo hi g marks (alSet iss i x) now ga ba drift G L bs R ex :=
  (h.1.is_ i x).mono fun e w' ⟨he, hs, hm⟩ => ⟨he, h.stepM hs hm⟩
theorem S9.adv (h : S9 w0 w lo hi g marks iss now ga ba drift G L bs R ex) :
    Calls Try.prog 43 #[.pointer (some ⟨g, 0, none⟩)] w fun e w' => e = .returned (.tuple #[.int .i64 (advAt now (mergeLeast marks iss)), .bool (decide (now < mergeLeast marks iss))]) ∧
      S9 w0 w' lo hi g marks iss (max now (mergeLeast marks iss)) ga ba drift G L bs R ex :=
  h.1.adv.mono fun e w' ⟨he, hs, hm⟩ => ⟨he, h.stepM hs hm⟩
theorem S9.dr {w' : World} (h : S9 w0 w lo hi g marks iss now ga ba drift G L bs R ex) (hb : Dr w w') : S9 w0 w' lo hi g marks iss now ga ba drift G L bs R ex := ⟨h.1.dr hb, h.2.1.dr hb, h.2.2⟩
theorem S9.local_ (i x : Int) (h : S9 w0 w lo hi g marks iss now ga ba drift G L bs R ex) :
    Calls Try.prog 28 #[.pointer (some ⟨ga, 0, none⟩), .int .i64 i, .int .i64 x] w fun e w' => e = .returned (.bool (decide (0 ≤ i ∧ i < L.length))) ∧ S9 w0 w' lo hi g marks iss now ga ba drift G (alSet L i x) bs R ex := by
  obtain ⟨h1, h2, h3, h4, h5, h6, h7⟩ := h
  refine (align_Local ga ba drift G L i x w h2).mono ?_
  rintro e w' ⟨he, ha, hm⟩
  refine ⟨he, h1.modS hm (by rintro k rfl; omega) (by rintro k e1 e2 rfl; omega) (fun y hy => ?_), ha, h3, h4, h5, h6, by rw [alSet_len]; exact h7⟩
  rcases List.mem_cons.1 hy with rfl | hy
  · exact fun e => h5.2 e.symm
  · exact (h6 y hy).2.1
theorem S9.global (at_ : Int) (h : S9 w0 w lo hi g marks iss now ga ba drift G L bs R ex) (ha : I64 at_) :
    Calls Try.prog 27 #[.pointer (some ⟨ga, 0, none⟩), .int .i64 at_] w fun e w' => ∃ v, e = .returned v ∧ S9 w0 w' lo hi g marks iss now ga ba drift at_ L bs R ex := by
  obtain ⟨h1, h2, h3, h4, h5, h6, h7⟩ := h
  refine (align_Global ga ba drift G at_ L w h2 h7 ha).mono ?_
  rintro e w' ⟨v, he, -, ha, hm⟩
  refine ⟨v, he, h1.modS hm (by rintro k rfl; omega) (by rintro k e1 e2 rfl; omega) (fun y hy => ?_), ha, h3, h4, h5, h6, h7⟩
  rcases List.mem_cons.1 hy with rfl | hy
  · exact fun e => h5.1 e.symm
  · exact (h6 y hy).1
theorem S9.paused (i : Int) (h : S9 w0 w lo hi g marks iss now ga ba drift G L bs R ex) :
    Calls Try.prog 31 #[.pointer (some ⟨ga, 0, none⟩), .int .i64 i] w fun e w' => e = .returned (.bool (alPaused L (satAdd G drift) i)) ∧ S9 w0 w' lo hi g marks iss now ga ba drift G L bs R ex :=
  (align_Paused ga ba drift G L i w h.2.1).mono fun e w' ⟨he, hd⟩ => ⟨he, h.dr hd⟩
theorem S9.rc (h : S9 w0 w lo hi g marks iss now ga ba drift G L bs R ex) : BlkL (Value.int .i64) w bs 3 R := h.1.e0
theorem SM.e1 {m : Nat} {k k' : Nat} {T T' : TypeId} {cs cs' : Array Value} (h : SM w0 w lo hi m marks iss now ((k, T, cs) :: (k', T', cs') :: ex)) : Blk w k' T' cs' := (h.2.2.2.2 _ (List.mem_cons_of_mem _ (List.mem_cons_self ..))).1
theorem S9.xc {k : Nat} {T : TypeId} {cs : Array Value} (h : S9 w0 w lo hi g marks iss now ga ba drift G L bs R [(k, T, cs)]) : Blk w k T cs := h.1.e1
theorem S9.setR (h : S9 w0 w lo hi g marks iss now ga ba drift G L bs R ex) (q : Nat) (x : Int) : S9 w0 (w.setCell ⟨bs, q, none⟩ (.int .i64 x)) lo hi g marks iss now ga ba drift G L bs (R.set q x) ex := by
  have hr := h.rc
  obtain ⟨h1, h2, h3, h4, h5, h6, h7⟩ := h
  have hm : Mod (fun k => k = bs) w (w.setCell ⟨bs, q, none⟩ (.int .i64 x)) := (Mod.refl (fun k => k = bs) w).setCell (p := ⟨bs, q, none⟩) (fun _ => rfl) _
  refine ⟨?_, h2.mod hm h5.1 h5.2, h3, h4, h5, h6, h7⟩
  obtain ⟨g1, g2, g3, g4, g5⟩ := h1
  refine ⟨bel_mod g1 hm (by intro i hi; omega), g2, Nat.le_trans g3 hm.size, g4.mod hm (by rintro k e1 e2 rfl; omega), fun y hy => ?_⟩
  rcases List.mem_cons.1 hy with rfl | hy
  · exact ⟨hr.set q x, by show ¬ (lo ≤ bs ∧ bs < hi); omega⟩
  · exact ⟨(g5 y (List.mem_cons_of_mem _ hy)).1.mod hm (h6 y hy).2.2, (g5 y (List.mem_cons_of_mem _ hy)).2⟩
theorem S9.alloc (h : S9 w0 w lo hi g marks iss now ga ba drift G L bs R []) (T : TypeId) (cs : Array Value) : S9 w0 (w.alloc (.cells cs T)) lo hi g marks iss now ga ba drift G L bs R [(w.heap.size, T, cs)] := by
  have l1 := h.2.1.1.lt
  have l2 := h.2.1.2.1.lt
  have l3 := h.rc.lt
  obtain ⟨h1, h2, h3, h4, h5, h6, h7⟩ := h
  have hb := bel_alloc (bel_refl w) (.cells cs T)
  obtain ⟨g1, g2, g3, g4, g5⟩ := h1.alloc T cs
  refine ⟨⟨g1, g2, g3, g4, fun y hy => g5 y ?_⟩, h2.below hb, h3, h4, h5, fun y hy => ?_, h7⟩
  · simp at hy ⊢; rcases hy with h | h; exact .inr h; exact .inl h
  · rw [List.mem_singleton] at hy; subst hy
    exact ⟨by show w.heap.size ≠ ga; omega, by show w.heap.size ≠ ba; omega, by show w.heap.size ≠ bs; omega⟩
theorem S9.drop (h : S9 w0 w lo hi g marks iss now ga ba drift G L bs R ex) : S9 w0 w lo hi g marks iss now ga ba drift G L bs R [] := by
  obtain ⟨h1, h2, h3, h4, h5, h6, h7⟩ := h
  obtain ⟨g1, g2, g3, g4, g5⟩ := h1
  exact ⟨⟨g1, g2, g3, g4, fun y hy => g5 y (by simp at hy ⊢; exact .inl hy)⟩, h2, h3, h4, h5, (fun x hx => by cases hx), h7⟩
theorem S9.below (h : S9 w0 w lo hi g marks iss now ga ba drift G L bs R ex) : Below w0.heap.size w0 w := h.1.1
end
def RMove (w : World) (cs : List Value) (x : Bool × Int × Int) : Prop := cs.length = 3 ∧ RBool w ((cs.drop 0).take 1) x.1 ∧ RInt .i64 w ((cs.drop 1).take 1) x.2.1 ∧ RInt .i64 w ((cs.drop 2).take 1) x.2.2

theorem S9.marksI {w0 w : World} {lo hi g ga ba bs : Nat} {marks iss L R : List Int} {now drift G : Int} {ex : Ex6} (h : S9 w0 w lo hi g marks iss now ga ba drift G L bs R ex) : I64 (mergeLeast marks iss) := by
  obtain ⟨a, s, t0, l0, h0, t1, l1, h1, bi, hB, rfl, hr, hx⟩ := h.1.2.2.2.1
  exact mergeLeast_I64 iss hx
theorem not_paused {marks : List Int} {i : Nat} {z L now2 drift : Int} (hz : marks[i]? = some z) (h1 : z ≤ L) (h2 : L ≤ now2) (h3 : 0 ≤ drift) (h4 : I64 now2) : alPaused marks (satAdd now2 drift) (i : Int) = false := by
  rw [alPaused_at hz]
  unfold I64 at h4
  refine decide_eq_false ?_
  unfold satAdd
  split
  · omega
  · split <;> omega
set_option maxRecDepth 100000 in
set_option maxHeartbeats 4000000 in
theorem wholeAhead (drift n : Int) (A : Option Addr) (cp : Nat) (l : List (Bool × Int × Int)) (w : World) (hd : (Lit.int .i64 drift).wf = true) (hnn : (Lit.int .u8 n).wf = true)
    (hr : ∀ j x, l[j]? = some x → ∃ ad row, A = some ad ∧ RMove w row x ∧ row.length = 3 ∧ ∀ i u, row[i]? = some u → w.cell? ((ad.add (j * 3)).add i) = some u) (hn : l.length ≤ maxLen) :
    Calls Try.prog 12 #[.int .i64 drift, .int .u8 n, .slice A l.length cp] w fun e w' => e = .returned (.bool true) ∧ Below w.heap.size w w' := by
  have hn' : l.length ≤ 9223372036854775807 := hn
  have hdI := I64.of_wf hd
  have hnb := wf_u8 hnn
  obtain ⟨hn0, hn1⟩ := hnb
  have HR := hid' (show RdS w A 3 fAct18 l from fun j x hj => by
    obtain ⟨ad, row, e, ha, hl, hc⟩ := hr j x hj
    obtain ⟨rfl, _, _⟩ := RAct18.cells ha
    exact ⟨ad, e, rfl, hc⟩)
  have HL := hid' (show ∀ (j : Nat) (x : Bool × Int × Int), l[j]? = some x → I64 x.2.1 ∧ I64 x.2.2 from fun j x hj => by
    obtain ⟨ad, row, e, ha, hl, hc⟩ := hr j x hj
    exact (RAct18.cells ha).2)
  clear hr hd hnn hn
  obtain ⟨K, hK⟩ : ∃ K : Nat, 1 + n % 12 = (K : Int) := ⟨(1 + n % 12).toNat, by omega⟩
  have hK0 : 0 < K := by omega
  have hK1 : K ≤ 12 := by omega
  have HK := hid' hK
  have hmk := mk1_run (P := Try.prog) 42 3 (.int .i64 0) 8 Try.underlying42 (by kernel_rfl) rfl K (by omega) (by omega)
  have e1 : alLim NEV 5 = -9223372036854775803 := by decide
  have e2 : satAdd NEV 5 = -9223372036854775803 := by decide
  clear hK
  go_enter Try.func12, Try.ntmps12
  go_wp2_with fail
  refine (SAl.new_ (w0 := w) 1 (bel_refl w) (by unfold I64 at *; omega) (by omega)).mono ?_
  rintro e w0 ⟨g0, b0, rfl, hS0⟩
  go_wp2_with fail
  refine (SAl.limit hS0).mono ?_
  rintro e w1 ⟨rfl, hS1⟩
  have HB := hid' hS1.below
  rw [e1]
  clear hS0 hS1 e1 e2
  by_cases hd0 : drift < 0
  · go_wp2
    go_ret
    exact ⟨rfl, HB.out⟩
  by_cases hl0 : 100 < l.length
  · have hd1 : decide (drift < 0) = false := decide_eq_false hd0
    go_wp2
    go_ret
    exact ⟨rfl, HB.out⟩
  have HR1 := hid' (HR.out.below HB.out)
  go_wp2_with fail
  rw [HK.out]
  refine (SM.new_ (w0 := w1) (K : Int) (bel_refl _) (by omega)).mono ?_
  rintro e w2 ⟨lo, hi, g, rfl, hS2⟩
  rw [Int.toNat_natCast] at hS2
  have HS2 := hid' hS2
  clear hS2
  go_wp2_with fail
  refine (align_New drift (K : Int) w2 hdI (by omega)).mono ?_
  rintro e w3 ⟨ga, ba, rfl, hg1, hb1, hal, hbel⟩
  rw [Int.toNat_natCast] at hal
  have HS := hid' (show S9 w1 (w3.alloc (.cells (madeCells #[Value.int .i64 0] K) 3)) lo hi g (List.replicate K NEV) (List.replicate K 0) NEV ga ba drift NEV (List.replicate K NEV) w3.heap.size (List.replicate K 0) [] by
    have l1 := hal.1.lt
    have l2 := hal.2.1.lt
    have h3 := HS2.out.below.size
    have h4 := HS2.out.2.2.1
    have h5 := hbel.size
    exact ⟨((HS2.out.bel hbel).bel (bel_alloc (bel_refl w3) _)).addE (BlkL.made' (f := Value.int .i64) w3 3 0 K) (by omega), hal.below (bel_alloc (bel_refl w3) _), by omega, by omega, by omega, (fun x hx => by cases hx), by rw [List.length_replicate]; omega⟩)
  clear hal hbel hg1 hb1
  go_wp2
  clear hmk
  generalize w3.alloc (.cells (madeCells #[Value.int .i64 0] K) 3) = w4 at *
  generalize w3.heap.size = bs at *
  go_loopw [48] (fun v48 wr => ∃ (k : Nat) (marks iss : List Int) (now : Int), k ≤ l.length ∧ v48 = .int .i64 k ∧ Hid (marks.length = K ∧ iss.length = K) ∧ S9 w1 wr lo hi g marks iss now ga ba drift now marks bs iss []) (fun v48 _ => l.length - (intOf v48).toNat)
  case atStart => exact ⟨0, _, _, _, by omega, rfl, ⟨by simp, by simp⟩, HS.out⟩
  case round =>
    obtain ⟨k, marks, iss, now, hk, rfl, HLn, hS⟩ := hrel
    by_cases hlt : k < l.length
    · obtain ⟨x, hx⟩ : ∃ x, l[k]? = some x := ⟨_, List.getElem?_eq_getElem hlt⟩
      obtain ⟨ad, rfl, -, hc⟩ := HR1.out.below hS.below k x hx
      obtain ⟨hxI, hxI2⟩ := HL.out k x hx
      obtain ⟨isb, xi, xn⟩ := x
      dsimp only at hxI hxI2
      have hc0 : wr.cell? (ad.add (k * 3)) = some (.bool isb) := hc 0 _ rfl
      have hc1 : wr.cell? ⟨(ad.add (k * 3)).block, (ad.add (k * 3)).off + 1, none⟩ = some (.int .i64 xi) := hc 1 _ rfl
      have hc2 : wr.cell? ⟨(ad.add (k * 3)).block, (ad.add (k * 3)).off + 2, none⟩ = some (.int .i64 xn) := hc 2 _ rfl
      clear hc hx
      have hS1 := hS.alloc 83 #[.bool isb, .int .i64 xi, .int .i64 xn]
      obtain ⟨t, ht⟩ : ∃ t, xi.tmod (K : Int) = t := ⟨_, rfl⟩
      have ht0 : -(K : Int) < t := by rw [← ht]; exact Int.lt_tmod_of_pos _ (by omega)
      have ht1 : t < (K : Int) := by rw [← ht]; exact Int.tmod_lt_of_pos _ (by omega)
      have hq0 := Int.emod_nonneg t (show (K : Int) ≠ 0 by omega)
      have hq1 := Int.emod_lt_of_pos t (show 0 < (K : Int) by omega)
      obtain ⟨q, hq⟩ := Int.eq_ofNat_of_zero_le hq0
      rw [hq] at hq1
      have hK3 : (0 : Int) < (K : Int) := by omega
      clear hq0
      have HLn2 := hid' (show q < marks.length ∧ q < iss.length by have := HLn.out; omega)
      have q0 : (0 : Int) ≤ (q : Int) := by omega
      cases isb
      · have HS1 := hid' hS1
        clear hS1 hS
        go_wp2_with fail
        refine (HS1.out.mark (q : Int) xn hxI2).mono ?_
        rintro e w5 ⟨rfl, hS5⟩
        generalize wr.heap.size = bx at *
        rw [show alSet marks (q : Int) xn = marks.set q xn by unfold alSet; rw [if_pos q0]; simp] at hS5
        have x2 : w5.cell? ⟨bx, 2, none⟩ = some (.int .i64 xn) := by simpa using hS5.xc.cell 2
        have HS5 := hid' hS5
        clear HS1 hS5 hc0 hc1 hc2
        go_wp2_with fail
        refine (HS5.out.local_ (q : Int) xn).mono ?_
        rintro e w6 ⟨rfl, hS6⟩
        rw [show alSet marks (q : Int) xn = marks.set q xn by unfold alSet; rw [if_pos q0]; simp] at hS6
        have HS6 := hid' hS6
        have HLn3 := hid' (show (marks.set q xn).length = K ∧ iss.length = K by rw [List.length_set]; exact HLn.out)
        clear HS5 hS6 x2
        go_wp2_with fail
        refine (HS6.out.adv).mono ?_
        rintro e w7 ⟨rfl, hS7⟩
        have HLI := hid' HS6.out.marksI
        obtain ⟨L, hL⟩ : ∃ L, L = mergeLeast (marks.set q xn) iss := ⟨_, rfl⟩
        rw [← hL] at hS7 HLI
        rw [← hL]
        have HLE := hid' hL
        clear hL HS6
        by_cases hnl : now < L
        · rw [show advAt now L = L by unfold advAt; rw [if_pos hnl], show decide (now < L) = true from decide_eq_true hnl]
          rw [show max now L = L by omega] at hS7
          have HS6 := hid' hS7
          clear hS7
          go_wp2_with fail
          refine (HS6.out.global L HLI.out).mono ?_
          rintro e w8 ⟨v8, rfl, hS8⟩
          have HS7 := hid' hS8
          clear hS8
          have HNow := hid' (HS7.out.1.nowI)
          go_wp2_with (go_at_call 44; refine (HS7.out.1.least).mono ?_; rintro e w' ⟨rfl, rfl⟩)
          rw [← HLE.out]
          go_loopw [99] (fun v99 wr => ∃ i : Nat, i ≤ K ∧ v99 = .int .i64 i ∧ S9 w1 wr lo hi g (marks.set q xn) iss L ga ba drift L (marks.set q xn) bs iss [(bx, 83, #[.bool false, .int .i64 xi, .int .i64 xn])]) (fun v99 _ => K - (intOf v99).toNat)
          case atStart => exact ⟨0, by omega, rfl, HS7.out⟩
          case round =>
            obtain ⟨i, hi', rfl, hS9⟩ := hrel
            have HS9 := hid' hS9
            by_cases hlt3 : i < K
            · obtain ⟨y, hy⟩ : ∃ y, (iss)[i]? = some y := ⟨_, List.getElem?_eq_getElem (by have := HLn3.out.2; omega)⟩
              obtain ⟨z, hz⟩ : ∃ z, ((marks.set q xn))[i]? = some z := ⟨_, List.getElem?_eq_getElem (by have := HLn3.out.1; omega)⟩
              have hcy := hS9.rc.cell hy
              have HAt := hid' fun (wx : World) (hw : Dr wr wx) => (HS9.out.dr hw).1.at_ (i : Int)
              rw [show treeKey (marks.set q xn) (i : Int) = z by
                unfold treeKey treeHas
                rw [if_pos (decide_eq_true (by have := HLn3.out.1; omega))]
                have h1 := keyOf_at (keys := (marks.set q xn)) (p := i) (by have := HLn3.out.1; omega)
                rw [hz] at h1; simpa using h1.symm] at HAt
              have HZ := hid' hz
              clear hy hz hS9
              by_cases hzL : z ≤ L
              · have hpz := not_paused HZ.out hzL (show L ≤ L by omega) hd0 HNow.out
                have HPa := hid' (HS9.out.paused (i : Int))
                rw [hpz] at HPa
                clear hpz
                go_wp2_with (first
                  | (go_at_call 47; refine (HAt.out _ (Dr.refl _)).mono ?_; rintro e w' ⟨rfl, rfl⟩)
                  | (go_at_call 31; refine (HPa.out).mono ?_; rintro e w' ⟨rfl, hS9⟩))
                all_goals
                  go_roundw
                  case rel => exact ⟨i + 1, by omega, by go_num, by first | exact hS9 | exact HS9.out⟩
                  case measure => simp [intOf]; omega
              · go_wp2_with (go_at_call 47; refine (HAt.out _ (Dr.refl _)).mono ?_; rintro e w' ⟨rfl, rfl⟩)
                all_goals
                  go_roundw
                  case rel => exact ⟨i + 1, by omega, by go_num, HS9.out⟩
                  case measure => simp [intOf]; omega
            · go_wp2
              go_roundw
              case rel => exact ⟨k + 1, (marks.set q xn), iss, L, by omega, by go_num, HLn3.out, HS9.out.drop⟩
              case measure => simp [intOf]; omega
        · rw [show advAt now L = 0 by unfold advAt; rw [if_neg hnl], show decide (now < L) = false from decide_eq_false hnl]
          rw [show max now L = now by omega] at hS7
          have HS7 := hid' hS7
          clear hS7
          have HNow := hid' (HS7.out.1.nowI)
          go_wp2_with (go_at_call 44; refine (HS7.out.1.least).mono ?_; rintro e w' ⟨rfl, rfl⟩)
          rw [← HLE.out]
          go_loopw [99] (fun v99 wr => ∃ i : Nat, i ≤ K ∧ v99 = .int .i64 i ∧ S9 w1 wr lo hi g (marks.set q xn) iss now ga ba drift now (marks.set q xn) bs iss [(bx, 83, #[.bool false, .int .i64 xi, .int .i64 xn])]) (fun v99 _ => K - (intOf v99).toNat)
          case atStart => exact ⟨0, by omega, rfl, HS7.out⟩
          case round =>
            obtain ⟨i, hi', rfl, hS9⟩ := hrel
            have HS9 := hid' hS9
            by_cases hlt3 : i < K
            · obtain ⟨y, hy⟩ : ∃ y, (iss)[i]? = some y := ⟨_, List.getElem?_eq_getElem (by have := HLn3.out.2; omega)⟩
              obtain ⟨z, hz⟩ : ∃ z, ((marks.set q xn))[i]? = some z := ⟨_, List.getElem?_eq_getElem (by have := HLn3.out.1; omega)⟩
              have hcy := hS9.rc.cell hy
              have HAt := hid' fun (wx : World) (hw : Dr wr wx) => (HS9.out.dr hw).1.at_ (i : Int)
              rw [show treeKey (marks.set q xn) (i : Int) = z by
                unfold treeKey treeHas
                rw [if_pos (decide_eq_true (by have := HLn3.out.1; omega))]
                have h1 := keyOf_at (keys := (marks.set q xn)) (p := i) (by have := HLn3.out.1; omega)
                rw [hz] at h1; simpa using h1.symm] at HAt
              have HZ := hid' hz
              clear hy hz hS9
              by_cases hzL : z ≤ L
              · have hpz := not_paused HZ.out hzL (show L ≤ now by omega) hd0 HNow.out
                have HPa := hid' (HS9.out.paused (i : Int))
                rw [hpz] at HPa
                clear hpz
                go_wp2_with (first
                  | (go_at_call 47; refine (HAt.out _ (Dr.refl _)).mono ?_; rintro e w' ⟨rfl, rfl⟩)
                  | (go_at_call 31; refine (HPa.out).mono ?_; rintro e w' ⟨rfl, hS9⟩))
                all_goals
                  go_roundw
                  case rel => exact ⟨i + 1, by omega, by go_num, by first | exact hS9 | exact HS9.out⟩
                  case measure => simp [intOf]; omega
              · go_wp2_with (go_at_call 47; refine (HAt.out _ (Dr.refl _)).mono ?_; rintro e w' ⟨rfl, rfl⟩)
                all_goals
                  go_roundw
                  case rel => exact ⟨i + 1, by omega, by go_num, HS9.out⟩
                  case measure => simp [intOf]; omega
            · go_wp2
              go_roundw
              case rel => exact ⟨k + 1, (marks.set q xn), iss, now, by omega, by go_num, HLn3.out, HS9.out.drop⟩
              case measure => simp [intOf]; omega
      · have hyR : iss[q]? = some (iss.getD q 0) := by rw [List.getD_eq_getElem?_getD, List.getElem?_eq_getElem HLn2.out.2]; rfl
        have hcR := hS.rc.cell hyR
        have hfR := hS.rc.frozen q
        have hS2 := (hS.setR q (xn % 4)).alloc 83 #[.bool true, .int .i64 xi, .int .i64 xn]
        rw [show (wr.setCell ⟨bs, q, none⟩ (.int .i64 (xn % 4))).heap.size = wr.heap.size by simp] at hS2
        have hblt := hS.rc.lt
        have HS2 := hid' hS2
        clear hS1 hS hS2 hyR
        generalize iss.getD q 0 = y0 at hcR
        go_wp2_with fail
        refine (HS2.out.is_ (q : Int) (xn % 4)).mono ?_
        rintro e w5 ⟨rfl, hS5⟩
        generalize wr.heap.size = bx at *
        rw [show alSet iss (q : Int) (xn % 4) = iss.set q (xn % 4) by unfold alSet; rw [if_pos q0]; simp] at hS5
        have HS6 := hid' hS5
        have HLn3 := hid' (show marks.length = K ∧ (iss.set q (xn % 4)).length = K by rw [List.length_set]; exact HLn.out)
        clear HS2 hS5 hc0 hc1 hc2 hcR hfR
        go_wp2_with fail
        refine (HS6.out.adv).mono ?_
        rintro e w7 ⟨rfl, hS7⟩
        have HLI := hid' HS6.out.marksI
        obtain ⟨L, hL⟩ : ∃ L, L = mergeLeast marks (iss.set q (xn % 4)) := ⟨_, rfl⟩
        rw [← hL] at hS7 HLI
        rw [← hL]
        have HLE := hid' hL
        clear hL HS6
        by_cases hnl : now < L
        · rw [show advAt now L = L by unfold advAt; rw [if_pos hnl], show decide (now < L) = true from decide_eq_true hnl]
          rw [show max now L = L by omega] at hS7
          have HS6 := hid' hS7
          clear hS7
          go_wp2_with fail
          refine (HS6.out.global L HLI.out).mono ?_
          rintro e w8 ⟨v8, rfl, hS8⟩
          have HS7 := hid' hS8
          clear hS8
          have HNow := hid' (HS7.out.1.nowI)
          go_wp2_with (go_at_call 44; refine (HS7.out.1.least).mono ?_; rintro e w' ⟨rfl, rfl⟩)
          rw [← HLE.out]
          go_loopw [99] (fun v99 wr => ∃ i : Nat, i ≤ K ∧ v99 = .int .i64 i ∧ S9 w1 wr lo hi g marks (iss.set q (xn % 4)) L ga ba drift L marks bs (iss.set q (xn % 4)) [(bx, 83, #[.bool true, .int .i64 xi, .int .i64 xn])]) (fun v99 _ => K - (intOf v99).toNat)
          case atStart => exact ⟨0, by omega, rfl, HS7.out⟩
          case round =>
            obtain ⟨i, hi', rfl, hS9⟩ := hrel
            have HS9 := hid' hS9
            by_cases hlt3 : i < K
            · obtain ⟨y, hy⟩ : ∃ y, ((iss.set q (xn % 4)))[i]? = some y := ⟨_, List.getElem?_eq_getElem (by have := HLn3.out.2; omega)⟩
              obtain ⟨z, hz⟩ : ∃ z, (marks)[i]? = some z := ⟨_, List.getElem?_eq_getElem (by have := HLn3.out.1; omega)⟩
              have hcy := hS9.rc.cell hy
              have HAt := hid' fun (wx : World) (hw : Dr wr wx) => (HS9.out.dr hw).1.at_ (i : Int)
              rw [show treeKey marks (i : Int) = z by
                unfold treeKey treeHas
                rw [if_pos (decide_eq_true (by have := HLn3.out.1; omega))]
                have h1 := keyOf_at (keys := marks) (p := i) (by have := HLn3.out.1; omega)
                rw [hz] at h1; simpa using h1.symm] at HAt
              have HZ := hid' hz
              clear hy hz hS9
              by_cases hzL : z ≤ L
              · have hpz := not_paused HZ.out hzL (show L ≤ L by omega) hd0 HNow.out
                have HPa := hid' (HS9.out.paused (i : Int))
                rw [hpz] at HPa
                clear hpz
                go_wp2_with (first
                  | (go_at_call 47; refine (HAt.out _ (Dr.refl _)).mono ?_; rintro e w' ⟨rfl, rfl⟩)
                  | (go_at_call 31; refine (HPa.out).mono ?_; rintro e w' ⟨rfl, hS9⟩))
                all_goals
                  go_roundw
                  case rel => exact ⟨i + 1, by omega, by go_num, by first | exact hS9 | exact HS9.out⟩
                  case measure => simp [intOf]; omega
              · go_wp2_with (go_at_call 47; refine (HAt.out _ (Dr.refl _)).mono ?_; rintro e w' ⟨rfl, rfl⟩)
                all_goals
                  go_roundw
                  case rel => exact ⟨i + 1, by omega, by go_num, HS9.out⟩
                  case measure => simp [intOf]; omega
            · go_wp2
              go_roundw
              case rel => exact ⟨k + 1, marks, (iss.set q (xn % 4)), L, by omega, by go_num, HLn3.out, HS9.out.drop⟩
              case measure => simp [intOf]; omega
        · rw [show advAt now L = 0 by unfold advAt; rw [if_neg hnl], show decide (now < L) = false from decide_eq_false hnl]
          rw [show max now L = now by omega] at hS7
          have HS7 := hid' hS7
          clear hS7
          have HNow := hid' (HS7.out.1.nowI)
          go_wp2_with (go_at_call 44; refine (HS7.out.1.least).mono ?_; rintro e w' ⟨rfl, rfl⟩)
          rw [← HLE.out]
          go_loopw [99] (fun v99 wr => ∃ i : Nat, i ≤ K ∧ v99 = .int .i64 i ∧ S9 w1 wr lo hi g marks (iss.set q (xn % 4)) now ga ba drift now marks bs (iss.set q (xn % 4)) [(bx, 83, #[.bool true, .int .i64 xi, .int .i64 xn])]) (fun v99 _ => K - (intOf v99).toNat)
          case atStart => exact ⟨0, by omega, rfl, HS7.out⟩
          case round =>
            obtain ⟨i, hi', rfl, hS9⟩ := hrel
            have HS9 := hid' hS9
            by_cases hlt3 : i < K
            · obtain ⟨y, hy⟩ : ∃ y, ((iss.set q (xn % 4)))[i]? = some y := ⟨_, List.getElem?_eq_getElem (by have := HLn3.out.2; omega)⟩
              obtain ⟨z, hz⟩ : ∃ z, (marks)[i]? = some z := ⟨_, List.getElem?_eq_getElem (by have := HLn3.out.1; omega)⟩
              have hcy := hS9.rc.cell hy
              have HAt := hid' fun (wx : World) (hw : Dr wr wx) => (HS9.out.dr hw).1.at_ (i : Int)
              rw [show treeKey marks (i : Int) = z by
                unfold treeKey treeHas
                rw [if_pos (decide_eq_true (by have := HLn3.out.1; omega))]
                have h1 := keyOf_at (keys := marks) (p := i) (by have := HLn3.out.1; omega)
                rw [hz] at h1; simpa using h1.symm] at HAt
              have HZ := hid' hz
              clear hy hz hS9
              by_cases hzL : z ≤ L
              · have hpz := not_paused HZ.out hzL (show L ≤ now by omega) hd0 HNow.out
                have HPa := hid' (HS9.out.paused (i : Int))
                rw [hpz] at HPa
                clear hpz
                go_wp2_with (first
                  | (go_at_call 47; refine (HAt.out _ (Dr.refl _)).mono ?_; rintro e w' ⟨rfl, rfl⟩)
                  | (go_at_call 31; refine (HPa.out).mono ?_; rintro e w' ⟨rfl, hS9⟩))
                all_goals
                  go_roundw
                  case rel => exact ⟨i + 1, by omega, by go_num, by first | exact hS9 | exact HS9.out⟩
                  case measure => simp [intOf]; omega
              · go_wp2_with (go_at_call 47; refine (HAt.out _ (Dr.refl _)).mono ?_; rintro e w' ⟨rfl, rfl⟩)
                all_goals
                  go_roundw
                  case rel => exact ⟨i + 1, by omega, by go_num, HS9.out⟩
                  case measure => simp [intOf]; omega
            · go_wp2
              go_roundw
              case rel => exact ⟨k + 1, marks, (iss.set q (xn % 4)), now, by omega, by go_num, HLn3.out, HS9.out.drop⟩
              case measure => simp [intOf]; omega
    · go_wp2
      go_ret
      exact ⟨rfl, bel_then HB.out hS.below⟩
end Go.Proofs.Ytnihefhnffnjoaa
