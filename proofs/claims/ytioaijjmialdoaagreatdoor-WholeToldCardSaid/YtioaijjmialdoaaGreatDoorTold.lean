
/- A log, told: the law, walked. No condition but the tables and variables of Go's own library. -/
import Derived.Test.YtioaijjmialdoaaGreatDoorToldPure
import Derived.Test.YtioaijjmialdoaaGreatDoorTabsQB
import Derived.Test.YtioaijjmialdoaaGreatDoorOpenSh
namespace Go.Proofs.YtioaijjmialdoaaGreatDoor
set_option maxRecDepth 100000
set_option linter.unusedSimpArgs false
open Go.RowKit
set_option linter.unusedVariables false
set_option linter.unusedSimpArgs false

theorem splW (c : UInt8) (s sep : ByteArray) (w : World) (hsep : sep = ⟨#[c]⟩) (hs : s.size ≤ 100000000) (hM : MaxT w) :
    ∃ P : List ByteArray, P.map bL = spl c (bL s) ∧ Calls Tryz.prog 12 #[.string s, .string sep] w fun e w' => e = .returned (.slice (some ⟨w.heap.size, 0, none⟩) P.length P.length) ∧ w' = w.alloc (.cells (P.map Value.string).toArray 9) := by
  obtain ⟨m, hm⟩ := hM
  subst hsep
  have h := Tryz.strings_Split s ⟨#[c]⟩ m w (by omega) hm (by show 1 ≤ 1; omega)
  have h1 := splitB_spl c s
  have h2 := Lib.splitB_all ⟨#[c]⟩ (by show 1 ≤ 1; omega) 0 _ s rfl
  rw [← h2] at h
  exact ⟨_, h1, h⟩
theorem spTold : strOf (textE [.fault 1 2]) = ⟨#[102, 97, 117, 108, 116, 32, 49, 32, 50, 10]⟩ := by
  have i1 : Lib.itoa 1 = [49] := itoa_pos_small (n := 1) (by decide)
  have i2 : Lib.itoa 2 = [50] := itoa_pos_small (n := 2) (by decide)
  show strOf (wFault ++ wordsL [1, 2] ++ [10] ++ []) = _
  rw [words_cons, words_cons, words_nil, i1, i2]
  rfl
def cAt (w : World) (g : Nat) : Nat := match w.cell? ⟨g, 1, none⟩ with | some (.int _ n) => n.toNat | _ => 0
theorem cAt_eq {w : World} {g : Nat} {s : ByteArray} {at_ cnt : Nat} (h : CurI w g s at_ cnt) : cAt w g = at_ := by
  have h1 : w.cell? ⟨g, 1, none⟩ = some (.int .i64 (at_ : Int)) := by simpa [curC] using h.1.cell 1
  unfold cAt; rw [h1]; simp
theorem told_one_text (e : Ev) : textE [e] = lineE e ++ [10] := by show lineE e ++ [10] ++ [] = _; simp
/-- what holds of the walk's worlds: the builder, the cursor, the call's own memory -/
def TSt (w w2 : World) (g : Nat) (s : ByteArray) (p : Int) (j : Nat) (W : World) : Prop :=
  (pSt s j).1.length = j ∧ USt w2 W (textE (toldE p (pSt s j).1)) ∧ CurI W g s (pSt s j).2 j ∧ (∀ e ∈ toldE p (pSt s j).1, evI e ∧ evZ e) ∧ Below w.heap.size w W
theorem USt.stringO {w0 W : World} {l : List UInt8} (h : USt w0 W l) :
    Calls Tryz.prog 13 #[.pointer (some ⟨w0.heap.size, 0, none⟩)] W fun e w' => e = .returned (.string (strOf l)) ∧ Below w0.heap.size w0 w' ∧ Oth w0.heap.size W w' :=
  (Tryz.Builder_String_any_k w0.heap.size w0.heap.size l _ h.1 h.2.size).mono fun e w' h2 => ⟨h2.1, h.2.trans h2.2.2.1, h2.2.2.2⟩
theorem own_oth {W W' : World} {base b n : Nat} {v : Value} {xs : List Value} (h : W.ownsRow base 34 3 v n xs) (ho : Oth b W W') (hb : b < base) : W'.ownsRow base 34 3 v n xs := by
  refine ⟨h.1, h.2.elim .inl fun ⟨g, cap, cur, h1, h2, h3, h4⟩ => .inr ⟨g, cap, cur, h1, h2, ?_, h4⟩⟩
  exact ho g _ h3 (fun e => by have := Option.some.inj e; omega) (fun c fz e => by injection e with _ e2; exact absurd e2 (by decide))
theorem got_oth {W W' : World} {g b : Nat} {cs : Array Value} (h : Blk W g 46 cs) (ho : Oth b W W') (hg : g ≠ b) : Blk W' g 46 cs :=
  ho g _ h (fun e => hg (Option.some.inj e)) (fun c fz e => by injection e with _ e2; exact absurd e2 (by decide))
theorem pieces {E : List Ev} {P : List ByteArray} (h : P.map bL = E.map lineE ++ [[]]) : P.length = E.length + 1 ∧ ∀ (i : Nat) (x : Ev), E[i]? = some x → P[i]? = some (strOf (lineE x)) := by
  have hl : P.length = E.length + 1 := by
    have := congrArg List.length h
    simpa using this
  refine ⟨hl, fun i x hx => ?_⟩
  have hi : i < E.length := (List.getElem?_eq_some_iff.1 hx).1
  have h1 : (P.map bL)[i]? = some (lineE x) := by
    rw [h, List.getElem?_append_left (by rw [List.length_map]; exact hi), List.getElem?_map, hx]; rfl
  rw [List.getElem?_map] at h1
  obtain ⟨y, hy, hb⟩ := Option.map_eq_some_iff.1 h1
  rw [hy]
  congr 1
  exact bL_inj (by rw [hb, bL_str])
theorem USt.lt2 {w0 W : World} {l : List UInt8} (h : USt w0 W l) : w0.heap.size < W.heap.size := by
  rcases h.1 with ⟨_, v, hb, _⟩ | ⟨_, v, hb, _⟩
  · exact (Array.getElem?_eq_some_iff.1 hb).1
  · exact (Array.getElem?_eq_some_iff.1 hb).1
theorem tfm_get {α : Type} {f : α → List Value} {sz : Nat} (hf : ∀ x, (f x).length = sz) : ∀ {l : List α} {j : Nat} {x : α}, l[j]? = some x → ∀ i u, (f x)[i]? = some u → (l.flatMap f)[j * sz + i]? = some u
  | [], j, x, h => by simp at h
  | r :: l, 0, x, h => fun i u hu => by
    simp only [List.getElem?_cons_zero, Option.some.injEq] at h; subst h
    have hi : i < (f r).length := (List.getElem?_eq_some_iff.1 hu).1
    rw [List.flatMap_cons, Nat.zero_mul, Nat.zero_add, List.getElem?_append_left hi]; exact hu
  | r :: l, j + 1, x, h => fun i u hu => by
    have ih := tfm_get hf (l := l) (j := j) (x := x) (by simpa using h) i u hu
    rw [List.flatMap_cons, List.getElem?_append_right (by rw [hf, Nat.succ_mul]; omega), hf, show (j + 1) * sz + i - sz = j * sz + i by rw [Nat.succ_mul]; omega]
    exact ih
theorem trd_rdS {α : Type} {f : α → List Value} {sz : Nat} (hf : ∀ x, (f x).length = sz) (h0 : 0 < sz) {w : World} {A : Option Addr} {l : List α} (h : Rd w A (l.flatMap f)) : RdS w A sz f l := fun j x hx => by
  have hi0 : 0 < (f x).length := by rw [hf]; exact h0
  obtain ⟨ad, hA, _⟩ := h _ _ (tfm_get hf hx 0 ((f x)[0]) (List.getElem?_eq_getElem hi0))
  refine ⟨ad, hA, hf x, fun i u hi => ?_⟩
  obtain ⟨ad', hA', c⟩ := h _ _ (tfm_get hf hx i u hi)
  rw [hA] at hA'; injection hA' with hA'; subst hA'
  rw [add_add']; exact c
theorem evV_if (e : Ev) : ∃ t v, evV e = .iface t v := by cases e <;> exact ⟨_, _, rfl⟩
set_option maxHeartbeats 16000000 in
theorem wholeTold (s : ByteArray) (p : Int) (w : World) (hs : s.size ≤ maxLen) (hp : (Lit.int .i64 p).wf = true) (hP : PowT w) (hE : ErV w) (hM : MaxT w) (hT : U8T w) (hZ : TzT w) :
    Calls Tryz.prog 3 #[.string s, .int .i64 p] w fun e w' => e = .returned (.bool true) ∧ Below w.heap.size w w' := by
  have hs' : s.size ≤ 9223372036854775807 := hs
  have HPI := hid' (I64.of_wf hp)
  have hb0 := bel_alloc (bel_refl w) (.cells #[.iface 25 (.agg #[.int .i64 1, .int .i64 2])] 53)
  have HL0 := hid' hb0
  have hTx := event_Text (some ⟨w.heap.size, 0, none⟩) 1 [.fault 1 2] (w.alloc (.cells #[.iface 25 (.agg #[.int .i64 1, .int .i64 2])] 53)) ((Blk.new_ w 53 #[.iface 25 (.agg #[.int .i64 1, .int .i64 2])]).rd rfl) (by simp) (by intro e he; rw [List.mem_singleton] at he; subst he; exact ⟨(by show I64 1 ∧ I64 2; unfold I64; decide), trivial⟩) (hP.below hb0) (hT.below hb0) (hZ.below hb0)
  rw [spTold] at hTx
  have HTX := hid' hTx
  have HP := hid' hP
  have HE := hid' hE
  have HM := hid' hM
  have HT := hid' hT
  have HZ := hid' hZ
  clear hP hE hM hT hZ hs hp hTx hb0
  by_cases hbig : 500 < s.size
  · go_enter Tryz.func3, Tryz.ntmps3
    go_wp2_with fail
    refine HTX.out.mono ?_
    rintro e w1 ⟨rfl, hB1⟩
    go_wp2_with fail
    refine (cursor_New ⟨#[]⟩ w1 (by decide)).mono ?_
    rintro e w2 ⟨g, rfl, -, -, -, hB2⟩
    have HL2 := hid' (bel_then (bel_then HL0.out hB1) hB2)
    clear hB1 hB2
    go_wp2
    go_ret
    exact ⟨rfl, HL2.out⟩
  go_enter Tryz.func3, Tryz.ntmps3
  go_wp2_with fail
  refine HTX.out.mono ?_
  rintro e w1 ⟨rfl, hB1⟩
  go_wp2_with fail
  refine (cursor_New ⟨#[]⟩ w1 (by decide)).mono ?_
  rintro e w2 ⟨g0, rfl, -, -, -, hB2⟩
  have HL2 := hid' (bel_then (bel_then HL0.out hB1) hB2)
  clear hB1 hB2 HTX
  have HU3 := hid' (USt.new_ w2)
  have HL3 := hid' (bel_alloc HL2.out (.cells #[.pointer none, .slice none 0 0] 31))
  have hs3 : (w2.alloc (.cells #[.pointer none, .slice none 0 0] 31)).heap.size = w2.heap.size + 1 := by simp
  have HS3 := hid' hs3
  clear hs3
  go_wp2_with fail
  generalize w2.alloc (.cells #[.pointer none, .slice none 0 0] 31) = w3 at *
  refine (cursor_New s w3 (by omega)).mono ?_
  rintro e w4 ⟨g, rfl, hg1, -, hC, hB4⟩
  have hgb : w2.heap.size < g := by have := HS3.out; omega
  have HT0 := hid' (show TSt w w2 g s p 0 w4 from ⟨rfl, HU3.out.below hB4, hC, fun e he => (by cases he), bel_then HL3.out hB4⟩)
  clear hg1 hC hB4 HU3 HL3 HS3 HL0
  go_wp2_with fail
  go_loopw [34] (fun v34 wr => ∃ j : Nat, TSt w w2 g s p j wr) (fun _ wr => s.size - cAt wr g)
  case atStart => exact ⟨0, HT0.out⟩
  case round =>
    obtain ⟨j, hS⟩ := hrel
    obtain ⟨hlen, hU, hC, hI, hL⟩ := hS
    have hle := pSt_le s (by omega) j
    have hjl := pSt_lt (s := s) (by omega) j
    by_cases hlive : pLive s (pSt s j).2
    · have hst := (cSt_live hle).2 hlive
      obtain ⟨r, n, hq, hn, hn0, hnext, hr1, hr2, hrz⟩ := told_next (by omega) hlen hlive
      have hA := cursor_Ahead g s (pSt s j).2 j wr hC (by omega)
      rw [hst] at hA
      have HA := hid' hA
      have hj1000 : (j : Int) < 1000 := by omega
      have HST := hid' (And.intro hst (And.intro hq hn))
      have HNX := hid' hnext
      have HRI := hid' (show evI (tEl p r) ∧ evZ (tEl p r) from ⟨⟨HPI.out, hr1, hr2⟩, hrz⟩)
      have HC := hid' hC
      have HU := hid' hU
      have HL := hid' hL
      have HI := hid' hI
      have HLEN := hid' hlen
      have HJ := hid' (show j ≤ 500 by omega)
      have HN0 := hid' (And.intro hn hn0)
      clear hA hst hq hn hnext hr1 hr2 hrz hC hU hL hI hlen hle hjl hlive
      go_wp2_with fail
      refine HA.out.mono ?_
      rintro e w5 ⟨rfl, hB5⟩
      have HC5 := hid' (HC.out.below hB5)
      have HU5 := hid' (HU.out.below hB5)
      have HL5 := hid' (bel_then HL.out hB5)
      clear hB5
      go_wp2_with fail
      refine (cursor_Count g s _ j w5 HC5.out).mono ?_
      rintro e w' ⟨rfl, rfl⟩
      go_wp2_with fail
      refine (cursor_NextYes g s _ j n r w5 HC5.out (by omega) HST.out.1 HST.out.2.1 HST.out.2.2 (by have := HJ.out; omega)).mono ?_
      rintro e w6 ⟨rfl, hC6, hM6⟩
      have hU6 := HU5.out.modg hM6 HC5.out.1 hgb
      have hL6 := bel_mod HL5.out hM6 (fun i hi e => by have := HL2.out.size; omega)
      obtain ⟨rk, rt, rx⟩ := r
      have hb7 := bel_alloc (bel_refl w6) (.cells #[.int .i64 rk, .int .i64 rt, .string rx] 34)
      have hs7 : (w6.alloc (.cells #[.int .i64 rk, .int .i64 rt, .string rx] 34)).heap.size = w6.heap.size + 1 := by simp
      have hb8 := bel_alloc hb7 (.cells #[evV (tEl p (rk, rt, rx))] 53)
      have HU8 := hid' (hU6.below hb8)
      have HC8 := hid' (hC6.below hb8)
      have HL8 := hid' (bel_then hL6 hb8)
      have hrd := (Blk.new_ (w6.alloc (.cells #[.int .i64 rk, .int .i64 rt, .string rx] 34)) 53 #[evV (tEl p (rk, rt, rx))]).rd (xs := ([tEl p (rk, rt, rx)].map evV)) rfl
      have hTX := event_Text (some ⟨_, 0, none⟩) 1 [tEl p (rk, rt, rx)] _ hrd (by simp) (by intro e he; rw [List.mem_singleton] at he; subst he; exact HRI.out) (HP.out.below HL8.out) (HT.out.below HL8.out) (HZ.out.below HL8.out)
      have hle1 := lineE_len HRI.out.1 HRI.out.2
      have hto := told_one_text (tEl p (rk, rt, rx))
      rw [hs7, hto] at hTX
      have HTX := hid' hTX
      have hacc := textE_len (l := toldE p (pSt s j).1) HI.out (by unfold toldE; rw [List.length_map, HLEN.out]; have := HJ.out; omega)
      have hal : (textE (toldE p (pSt s j).1)).length ≤ 13001000 := by
        have : (toldE p (pSt s j).1).length ≤ 500 := by unfold toldE; rw [List.length_map, HLEN.out]; exact HJ.out
        omega
      clear hC6 hM6 hU6 hL6 hb7 hb8 hTX hrd hto hacc
      unfold tEl evV at HTX
      simp only at HTX
      go_wp2_with fail
      refine HTX.out.mono ?_
      rintro e w9 ⟨rfl, hB9⟩
      have HC9 := hid' (HC8.out.below hB9)
      have HU9 := hid' (HU8.out.below hB9)
      have HL9 := hid' (bel_then HL8.out hB9)
      have HW := hid' (USt.strO HU9.out (strOf (lineE (tEl p (rk, rt, rx)) ++ [10])) (by show _ + (lineE (tEl p (rk, rt, rx)) ++ [10]).length ≤ _; rw [List.length_append, List.length_singleton]; omega))
      clear hB9
      go_wp2_with fail
      refine HW.out.mono ?_
      rintro e w10 ⟨⟨r10, rfl⟩, hU10, hO10⟩
      have hC10 := HC9.out.oth hO10 (by omega)
      rw [bL_str, ← told_one_text] at hU10
      have hS10 : TSt w w2 g s p (j + 1) w10 := by
        unfold TSt
        rw [HNX.out]
        refine ⟨by simp [HLEN.out], ?_, hC10, ?_, bel_then HL2.out (by exact hU10.2)⟩
        · show USt w2 w10 (textE (toldE p ((pSt s j).1 ++ [(rk, rt, rx)])))
          rw [toldE_snoc, textE_app]
          exact hU10
        · intro e he
          have he2 : e ∈ toldE p ((pSt s j).1 ++ [(rk, rt, rx)]) := he
          rw [toldE_snoc] at he2
          rcases List.mem_append.1 he2 with h | h
          · exact HI.out e h
          · rw [List.mem_singleton] at h; subst h; exact HRI.out
      have HS10 := hid' hS10
      have hm1 : cAt wr g = (pSt s j).2 := cAt_eq HC.out
      have hm2 : cAt w10 g = (pSt s j).2 + n := cAt_eq hC10
      have HM12 := hid' (And.intro hm1 (And.intro hm2 HN0.out))
      clear hU10 hO10 hC10 hS10 hm1 hm2
      go_wp2
      go_roundw
      case rel => exact ⟨j + 1, HS10.out⟩
      case measure =>
        obtain ⟨m1, m2, m3, m4⟩ := HM12.out
        rw [m1, m2]; omega
    · have hst0 : cSt s (pSt s j).2 ≠ 0 := fun h => hlive ((cSt_live hle).1 h)
      have HND := hid' hlive
      obtain ⟨st, hst⟩ : ∃ st, st = cSt s (pSt s j).2 := ⟨_, rfl⟩
      have hA := fun W (h : CurI W g s (pSt s j).2 j) => cursor_Ahead g s (pSt s j).2 j W h (by omega)
      rw [← hst] at hA hst0
      have e0 : (st == 0) = false := by simpa using hst0
      have HA := hid' hA
      obtain ⟨er, her⟩ : ∃ er, er = pErr s (pSt s j).2 := ⟨_, rfl⟩
      have hst2 : st = 2 ↔ er ≠ 0 := by rw [hst, her]; exact cSt_two
      have HST2 := hid' hst2
      have hE := fun W (h : CurI W g s (pSt s j).2 j) => cursor_Err g s (pSt s j).2 j W h
      rw [cLook_err, ← her] at hE
      have HEr := hid' hE
      have HERR := hid' her
      have HERI := hid' (show I64 er by rw [her]; exact pErr_I _ _)
      have HJ := hid' (show j ≤ 500 by omega)
      have HC := hid' hC
      have HU := hid' hU
      have HL := hid' hL
      have HI := hid' hI
      have HLEN := hid' hlen
      clear hA hst hst0 her hst2 hE hC hU hL hI hlen hle hjl hlive
      go_wp2_with fail
      refine (HA.out _ HC.out).mono ?_
      rintro e w5 ⟨rfl, hB5⟩
      have HC5 := hid' (HC.out.below hB5)
      have HU5 := hid' (HU.out.below hB5)
      have HL5 := hid' (bel_then HL.out hB5)
      clear hB5
      go_wp2_with fail
      refine (HA.out _ HC5.out).mono ?_
      rintro e w6 ⟨rfl, hB6⟩
      have HC6 := hid' (HC5.out.below hB6)
      have HU6 := hid' (HU5.out.below hB6)
      have HL6 := hid' (bel_then HL5.out hB6)
      clear hB6 e0
      have HIE := hid' (show ∀ e ∈ toldE p (pSt s j).1 ++ toldF p er, evI e ∧ evZ e from fun e he => by
        rcases List.mem_append.1 he with h | h
        · exact HI.out e h
        · unfold toldF at h
          split at h
          · cases h
          · rw [List.mem_singleton] at h; subst h; exact ⟨⟨HPI.out, HERI.out⟩, trivial⟩)
      by_cases h0 : er = 0
      · have e2 : (st == 2) = false := by rw [beq_eq_false_iff_ne]; intro h; exact HST2.out.1 h h0
        subst h0
        go_wp2_with fail
        have HX := hid' (show USt w2 w6 (textE (toldE p (pSt s j).1 ++ toldF p 0)) by rw [show toldF p 0 = [] from rfl, List.append_nil]; exact HU6.out)
        clear e2
        obtain ⟨E, hE⟩ : ∃ E, E = toldE p (pSt s j).1 ++ toldF p 0 := ⟨_, rfl⟩
        have hEL := told_el p 0 (pSt s j).1
        have hEF := told_ft p 0 (pSt s j).1
        have hEP := told_part p 0 (pSt s j).1
        have hEn : E.length = j + 0 := by rw [hE, List.length_append]; unfold toldE; rw [List.length_map, HLEN.out]; first | rfl | (unfold toldF; rw [if_neg h0]; rfl)
        first | rw [if_pos rfl] at hEF | rw [if_neg h0] at hEF
        rw [← hE] at HIE HX hEL hEF hEP
        have HEL := hid' hEL
        have HEF := hid' hEF
        have HEP := hid' hEP
        obtain ⟨m, hm⟩ : ∃ m, m = E.length := ⟨_, rfl⟩
        rw [← hm] at hEn
        have HEM := hid' hm
        have HEN := hid' hEn
        clear hE hEL hEF hEP hm hEn
        refine (ref06_Parse s _ (by omega)).mono ?_
        rintro e w20 ⟨k2, v2, rfl, hend2, hlen2, hO2, hB2⟩
        obtain rfl : k2 = j := told_one hend2 HND.out hlen2 HLEN.out
        rw [← HERR.out]
        obtain ⟨A1, c1, hv2, -, -, -⟩ := own_rd hO2
        subst hv2
        have hb21 := bel_alloc (bel_refl w20) (.cells #[.slice A1 k2 c1, .int .i64 ((pSt s k2).2 : Int), .int .i64 0] 46)
        have HG21 := hid' (Blk.new_ w20 46 #[.slice A1 k2 c1, .int .i64 ((pSt s k2).2 : Int), .int .i64 0])
        have HO21 := hid' (own_below hO2 hb21)
        have HU21 := hid' ((HX.out.below hB2).below hb21)
        have HGB := hid' (show w2.heap.size < w20.heap.size ∧ w2.heap.size < (w6).heap.size from by have h1 := HX.out.lt2; have h2 := hB2.size; exact ⟨by omega, h1⟩)
        clear hend2 hlen2 hO2 hB2 hb21
        go_wp2_with fail
        refine HU21.out.stringO.mono ?_
        rintro e w22 ⟨rfl, hb22, ho22⟩
        have HL22 := hid' (bel_then HL2.out hb22)
        have HO22 := hid' (own_oth HO21.out ho22 HGB.out.2)
        have HG22 := hid' (got_oth HG21.out ho22 (by have := HGB.out.1; omega))
        have htl := textE_len HIE.out (by rw [← HEM.out, HEN.out]; have := HJ.out; omega)
        obtain ⟨P, hPd, hPC⟩ := splW 10 (strOf (textE E)) ⟨#[10]⟩ w22 rfl (by show (textE E).length ≤ _; rw [← HEM.out, HEN.out] at htl; have := HJ.out; omega) (HM.out.below HL22.out)
        rw [bL_str, spl_text] at hPd
        obtain ⟨hPl, hPi⟩ := pieces hPd
        rw [← HEM.out] at hPl
        obtain ⟨M1, hM1⟩ : ∃ M1, M1 = P.length := ⟨_, rfl⟩
        rw [← hM1] at hPl hPC
        have HPC := hid' hPC
        have HPI := hid' hPi
        have i1 : (M1 : Int) - 1 = (m : Int) := by omega
        have hm5 : m ≤ 501 := by rw [HEN.out]; have := HJ.out; omega
        clear hb22 ho22 htl hPd hPi hPC HU21 HG21 HO21
        go_wp2_with fail
        refine HPC.out.mono ?_
        rintro e w23 ⟨rfl, hw23⟩
        have hB23 : Below w22.heap.size w22 w23 := by rw [hw23]; exact bel_alloc (bel_refl _) _
        have hRP : Rd w23 (some ⟨w22.heap.size, 0, none⟩) (P.map .string) := by rw [hw23]; exact (Blk.new_ w22 _ _).rd rfl
        have HL23 := hid' (bel_then HL22.out hB23)
        have HO23 := hid' (own_below HO22.out hB23)
        have HG23 := hid' (HG22.out.below hB23)
        obtain ⟨adP, hadP⟩ : ∃ a : Addr, a = ⟨w22.heap.size, 0, none⟩ := ⟨_, rfl⟩
        rw [← hadP] at hRP ⊢
        have HRP := hid' hRP
        have HO0 := hid' (World.ownsRow_nil w23 w23.heap.size 53 1)
        have hcut := cut_h (P := Tryz.prog) 48 9 1 Tryz.underlying48 (by kernel_rfl) (some adP) M1 M1 m (by omega)
        clear hw23 hB23 hRP hadP HPC hM1
        go_wp2_with fail
        go_loopw [11, 75] (fun v11 v75 wr => ∃ i : Nat, i ≤ m ∧ v75 = .int .i64 i ∧ wr.ownsRow w23.heap.size 53 1 v11 i ((E.take i).map evV) ∧ Below w23.heap.size w23 wr) (fun _ v75 _ => m - (intOf v75).toNat)
        case atStart => exact ⟨0, Nat.zero_le _, rfl, HO0.out, bel_refl _⟩
        case round =>
          clear hcut i1 hPl
          obtain ⟨i, hi, rfl, hO, hL⟩ := hrel
          have HO := hid' hO
          have HL := hid' hL
          clear hO
          by_cases hlt : i < m
          · obtain ⟨x, hx⟩ : ∃ x, E[i]? = some x := ⟨_, List.getElem?_eq_getElem (by rw [← HEM.out]; exact hlt)⟩
            obtain ⟨hxi, hxz⟩ := HIE.out x (List.mem_of_getElem? hx)
            obtain ⟨ad9, e9, hcell⟩ := (HRP.out.below hL) i (.string (strOf (lineE x))) (by rw [List.getElem?_map, HPI.out i x hx]; rfl)
            cases e9
            have hpp := HEP.out x (List.mem_of_getElem? hx)
            have hll := lineE_len hxi hxz
            have HL3 := hid' (bel_then HL23.out hL)
            have hRE := event_Read (strOf (lineE x)) wr (by show (lineE x).length ≤ _; omega) (HP.out.below HL3.out) (HE.out.below HL3.out) (HM.out.below HL3.out) (HT.out.below HL3.out) (HZ.out.below HL3.out)
            rw [bL_str, readE_line hxi] at hRE
            have hPA := fun W => event_Part x W
            rw [hpp] at hPA
            obtain ⟨tv, vv, hv⟩ := evV_if x
            have hRE2 : Calls Tryz.prog 14 #[.string (strOf (lineE x))] wr fun e w' => e = .returned (.tuple #[.iface tv vv, .bool true]) ∧ Below wr.heap.size wr w' := by rw [← hv]; exact hRE
            rw [hv] at hPA
            have HRE := hid' hRE2
            have HPA := hid' hPA
            have HXE := hid' (show (E.take (i + 1)).map evV = (E.take i).map evV ++ [.iface tv vv] by rw [List.take_add_one, hx, List.map_append, ← hv]; rfl)
            generalize strOf (lineE x) = LX at *
            clear hx hxi hxz hpp hll hRE hRE2 hPA hv hL
            go_wp2_with fail
            refine HRE.out.mono ?_
            rintro e w24 ⟨rfl, hB24⟩
            go_wp2_with fail
            refine (HPA.out w24).mono ?_
            rintro e w25 ⟨rfl, hB25⟩
            have HL25 := hid' (bel_then HL.out (bel_then hB24 hB25))
            have HO25 := hid' (own_below HO.out (bel_then hB24 hB25))
            have hbase := HL25.out.size
            have hone := hid' (show ∀ u ∈ [(.iface tv vv : Value)], u.oneCell' = true by intro u hu; rw [List.mem_singleton] at hu; subst hu; rfl)
            have hby : (i + 1) * 16 ≤ 140737488355328 := by omega
            clear hB24 hB25
            go_wp2_with (at_builtin; (refine ap_cells w23.heap.size rfl _ _ 51 53 .nilIface 1 16 rfl (by kernel_rfl) (by kernel_rfl) rfl (by decide) (by decide) u11 i ((E.take i).map evV) [.iface tv vv] rfl rfl rfl hone.out HO25.out hbase hby ?_); intro v1 w5 hown hg hat)
            go_roundw
            case rel => exact ⟨i + 1, by omega, by go_num, by rw [HXE.out]; exact hown, bel_mod HL25.out (Mod.of_grown hg) (fun i hi h => by have := own_base' HO25.out i h; omega)⟩
            case measure => (simp only [intOf]; omega)
          · obtain rfl : i = m := by omega
            rw [show E.take i = E from List.take_of_length_le (Nat.le_of_eq HEM.out.symm)] at HO
            obtain ⟨A3, c3, hv3, -, -, hrd⟩ := own_rd HO.out
            subst hv3
            have hEb : E.length ≤ 100000 := by rw [← HEM.out]; omega
            have HOE := hid' (fun W hW => of_elem A3 c3 E W hW hEb)
            have HOT := hid' (fun W hW => of_fault A3 c3 E W hW hEb)
            have hft7 : (ftL E).length = 0 := by rw [HEF.out]; rfl
            rw [← HEM.out, HEL.out] at HOE
            rw [← HEM.out, hft7] at HOT
            rw [List.length_map, HLEN.out] at HOE
            have HRE := hid' hrd
            have HG30 := hid' (HG23.out.below HL.out)
            have HO30 := hid' (own_below HO23.out HL.out)
            have HL30 := hid' (bel_then HL23.out HL.out)
            clear hrd hEb hL hft7
            skip
            go_wp2_with fail
            refine (HOE.out _ HRE.out).mono ?_
            rintro e w31 ⟨v31, rfl, hO31, hB31⟩
            go_wp2_with fail
            refine (HOT.out _ (HRE.out.below hB31)).mono ?_
            rintro e w32 ⟨v32, rfl, hO32, hB32⟩
            obtain ⟨A5, c5, hv5, -, -, hr5⟩ := own_rd hO31
            obtain ⟨A7, c7, hv7, -, -, hr7⟩ := own_rd hO32
            subst hv5 hv7
            obtain ⟨L, hL⟩ : ∃ L, L = (pSt s k2).1 := ⟨_, rfl⟩
            rw [← hL] at hr5
            have HLL := hid' (show L.length = k2 by rw [hL]; exact HLEN.out)
            have hrow := own_below (own_below HO30.out hB31) hB32
            rw [← hL] at hrow
            obtain ⟨A9, c9, hv9, -, -, hr9⟩ := own_rd hrow
            injection hv9 with hv9a hv9b hv9c
            subst hv9a
            have HR9 := hid' (rd_recS hr9)
            have HR5 := hid' ((trd_rdS (f := fEl) (sz := 5) (fun _ => rfl) (by decide) hr5).below hB32)
            have HR7 := hid' hr7
            have HG32 := hid' ((HG30.out.below hB31).below hB32)
            have HL32 := hid' (bel_then (bel_then HL30.out hB31) hB32)
            have a0 : w32.cell? ⟨w20.heap.size, 0, none⟩ = some (.slice A1 k2 c1) := HG32.out.cell 0
            have a2 : w32.cell? ⟨w20.heap.size, 2, none⟩ = some (.int .i64 0) := HG32.out.cell 2
            have hmm : wrap64 (k2 : Int) = (i : Int) := (by have h1 := HEN.out; have h2 := HJ.out; unfold wrap64; omega)
            clear hO31 hO32 hB31 hB32 hr5 hr7 hr9 hrow hL hv9b hv9c
            go_wp2_with fail
            clear a0 a2
            clear hmm
            have hk5 := HJ.out
            go_loopw [133] (fun v133 wr => ∃ q : Nat, q ≤ k2 ∧ v133 = .int .i64 q ∧ Below w32.heap.size w32 wr) (fun v133 _ => k2 - (intOf v133).toNat)
            case atStart => exact ⟨0, Nat.zero_le _, rfl, bel_refl _⟩
            case round =>
              obtain ⟨q, hq, rfl, hLq⟩ := hrel
              have HLq := hid' hLq
              by_cases hlt3 : q < k2
              · obtain ⟨r, hr⟩ : ∃ r, L[q]? = some r := ⟨_, List.getElem?_eq_getElem (by rw [HLL.out]; exact hlt3)⟩
                obtain ⟨ad1, e1, q0, q1, q2⟩ := (HR9.out.below hLq).rec hr
                subst e1
                obtain ⟨ad5, e5, -, hc⟩ := (HR5.out.below hLq) q (p, r.1, r.2.1, r.2.2, false) (by rw [List.getElem?_map, hr]; rfl)
                subst e5
                obtain ⟨rk, rt, rx⟩ := r
                simp only at q0 q1 q2 hc
                have g0 : wr.cell? (ad5.add (q * 5)) = some (.int .i64 p) := hc 0 _ rfl
                have g1 : wr.cell? ⟨(ad5.add (q * 5)).block, (ad5.add (q * 5)).off + 1, none⟩ = some (.int .i64 rk) := hc 1 _ rfl
                have g2 : wr.cell? ⟨(ad5.add (q * 5)).block, (ad5.add (q * 5)).off + 2, none⟩ = some (.int .i64 rt) := hc 2 _ rfl
                have g3 : wr.cell? ⟨(ad5.add (q * 5)).block, (ad5.add (q * 5)).off + 3, none⟩ = some (.string rx) := hc 3 _ rfl
                have g4 : wr.cell? ⟨(ad5.add (q * 5)).block, (ad5.add (q * 5)).off + 4, none⟩ = some (.bool false) := hc 4 _ rfl
                have hb1 := bel_alloc (bel_refl wr) (.cells #[.int .i64 p, .int .i64 rk, .int .i64 rt, .string rx, .bool false] 42)
                have HK1 := hid' (Blk.new_ wr 42 #[.int .i64 p, .int .i64 rk, .int .i64 rt, .string rx, .bool false])
                have HB1 := hid' (bel_then HLq.out hb1)
                have Q0 := hid' ((hb1.cell (World.block_lt_of_cell? wr _ q0)).trans q0)
                have Q1 := hid' ((hb1.cell (World.block_lt_of_cell? wr _ q1)).trans q1)
                have Q2 := hid' ((hb1.cell (World.block_lt_of_cell? wr _ q2)).trans q2)
                have HGa := hid' ((HG32.out.below hLq).below hb1)
                clear hr hc hb1 q0 q1 q2 hLq
                go_wp2
                generalize wr.alloc (.cells #[.int .i64 p, .int .i64 rk, .int .i64 rt, .string rx, .bool false] 42) = wa at *
                have q0 := Q0.out
                have q1 := Q1.out
                have q2 := Q2.out
                have n1 : wa.cell? ⟨wr.heap.size, 1, none⟩ = some (.int .i64 rk) := HK1.out.cell 1
                have n2 : wa.cell? ⟨wr.heap.size, 2, none⟩ = some (.int .i64 rt) := HK1.out.cell 2
                have n3 : wa.cell? ⟨wr.heap.size, 3, none⟩ = some (.string rx) := HK1.out.cell 3
                have n4 : wa.cell? ⟨wr.heap.size, 4, none⟩ = some (.bool false) := HK1.out.cell 4
                have a0 : wa.cell? ⟨w20.heap.size, 0, none⟩ = some (.slice (some ad1) k2 c1) := HGa.out.cell 0
                clear g0 g1 g2 g3 g4
                go_quiet (fail)
                all_goals
                  go_wp2
                  go_roundw
                  case rel => exact ⟨q + 1, by omega, by go_num, by first | exact HB1.out | exact bel_drewN HB1.out _⟩
                  case measure => (simp only [intOf]; omega)
              · obtain rfl : q = k2 := by omega
                have HLe := hid' (bel_then HL32.out hLq)
                have HG9 := hid' (HG32.out.below hLq)
                have a2 : wr.cell? ⟨w20.heap.size, 2, none⟩ = some (.int .i64 0) := HG9.out.cell 2
                have HR8 := hid' (HR7.out.below hLq)
                rw [HEF.out] at HR8
                clear hLq
                skip
                go_wp2_with fail
                go_quiet (fail)
                all_goals
                  go_wp2
                  go_ret
                  exact ⟨rfl, by first | exact HLe.out | exact bel_drewN HLe.out _⟩
      · have e2 : st = 2 := HST2.out.2 h0
        subst e2
        go_wp2_with fail
        refine (HEr.out _ HC6.out).mono ?_
        rintro e w' ⟨rfl, rfl⟩
        have hb8 := bel_alloc (bel_refl w6) (.cells #[.iface 25 (.agg #[.int .i64 p, .int .i64 er])] 53)
        have HU8 := hid' (HU6.out.below hb8)
        have HL8 := hid' (bel_then HL6.out hb8)
        have hTX := event_Text (some ⟨w6.heap.size, 0, none⟩) 1 [.fault p er] _ ((Blk.new_ w6 53 #[.iface 25 (.agg #[.int .i64 p, .int .i64 er])]).rd rfl) (by simp) (by intro e he; rw [List.mem_singleton] at he; subst he; exact ⟨⟨HPI.out, HERI.out⟩, trivial⟩) (HP.out.below HL8.out) (HT.out.below HL8.out) (HZ.out.below HL8.out)
        have hle1 := lineE_len (e := .fault p er) ⟨HPI.out, HERI.out⟩ trivial
        rw [told_one_text] at hTX
        have HTX := hid' hTX
        have hacc := textE_len (l := toldE p (pSt s j).1) HI.out (by unfold toldE; rw [List.length_map, HLEN.out]; have := HJ.out; omega)
        have hal : (textE (toldE p (pSt s j).1)).length ≤ 13001000 := by
          have : (toldE p (pSt s j).1).length ≤ 500 := by unfold toldE; rw [List.length_map, HLEN.out]; exact HJ.out
          omega
        clear hb8 hTX hacc
        go_wp2_with fail
        refine HTX.out.mono ?_
        rintro e w9 ⟨rfl, hB9⟩
        have HU9 := hid' (HU8.out.below hB9)
        have HL9 := hid' (bel_then HL8.out hB9)
        have HW := hid' (USt.str HU9.out (strOf (lineE (.fault p er) ++ [10])) (by show _ + (lineE (.fault p er) ++ [10]).length ≤ _; rw [List.length_append, List.length_singleton]; omega))
        clear hB9
        go_wp2_with fail
        refine HW.out.mono ?_
        rintro e w10 ⟨⟨r10, rfl⟩, hU10⟩
        have HX := hid' (show USt w2 w10 (textE (toldE p (pSt s j).1 ++ toldF p er)) by
          rw [bL_str, ← told_one_text, ← textE_app] at hU10
          rw [show toldF p er = [.fault p er] by unfold toldF; rw [if_neg h0]]
          exact hU10)
        have HL10 := hid' (show Below w.heap.size w w10 from bel_then HL2.out HX.out.2)
        clear hU10 hal hle1
        go_wp2_with fail
        have e9 : (er != 0) = true := by simpa using h0
        obtain ⟨E, hE⟩ : ∃ E, E = toldE p (pSt s j).1 ++ toldF p er := ⟨_, rfl⟩
        have hEL := told_el p er (pSt s j).1
        have hEF := told_ft p er (pSt s j).1
        have hEP := told_part p er (pSt s j).1
        have hEn : E.length = j + 1 := by rw [hE, List.length_append]; unfold toldE; rw [List.length_map, HLEN.out]; first | rfl | (unfold toldF; rw [if_neg h0]; rfl)
        first | rw [if_pos rfl] at hEF | rw [if_neg h0] at hEF
        rw [← hE] at HIE HX hEL hEF hEP
        have HEL := hid' hEL
        have HEF := hid' hEF
        have HEP := hid' hEP
        obtain ⟨m, hm⟩ : ∃ m, m = E.length := ⟨_, rfl⟩
        rw [← hm] at hEn
        have HEM := hid' hm
        have HEN := hid' hEn
        clear hE hEL hEF hEP hm hEn
        refine (ref06_Parse s _ (by omega)).mono ?_
        rintro e w20 ⟨k2, v2, rfl, hend2, hlen2, hO2, hB2⟩
        obtain rfl : k2 = j := told_one hend2 HND.out hlen2 HLEN.out
        rw [← HERR.out]
        obtain ⟨A1, c1, hv2, -, -, -⟩ := own_rd hO2
        subst hv2
        have hb21 := bel_alloc (bel_refl w20) (.cells #[.slice A1 k2 c1, .int .i64 ((pSt s k2).2 : Int), .int .i64 er] 46)
        have HG21 := hid' (Blk.new_ w20 46 #[.slice A1 k2 c1, .int .i64 ((pSt s k2).2 : Int), .int .i64 er])
        have HO21 := hid' (own_below hO2 hb21)
        have HU21 := hid' ((HX.out.below hB2).below hb21)
        have HGB := hid' (show w2.heap.size < w20.heap.size ∧ w2.heap.size < (w10).heap.size from by have h1 := HX.out.lt2; have h2 := hB2.size; exact ⟨by omega, h1⟩)
        clear hend2 hlen2 hO2 hB2 hb21
        go_wp2_with fail
        refine HU21.out.stringO.mono ?_
        rintro e w22 ⟨rfl, hb22, ho22⟩
        have HL22 := hid' (bel_then HL2.out hb22)
        have HO22 := hid' (own_oth HO21.out ho22 HGB.out.2)
        have HG22 := hid' (got_oth HG21.out ho22 (by have := HGB.out.1; omega))
        have htl := textE_len HIE.out (by rw [← HEM.out, HEN.out]; have := HJ.out; omega)
        obtain ⟨P, hPd, hPC⟩ := splW 10 (strOf (textE E)) ⟨#[10]⟩ w22 rfl (by show (textE E).length ≤ _; rw [← HEM.out, HEN.out] at htl; have := HJ.out; omega) (HM.out.below HL22.out)
        rw [bL_str, spl_text] at hPd
        obtain ⟨hPl, hPi⟩ := pieces hPd
        rw [← HEM.out] at hPl
        obtain ⟨M1, hM1⟩ : ∃ M1, M1 = P.length := ⟨_, rfl⟩
        rw [← hM1] at hPl hPC
        have HPC := hid' hPC
        have HPI := hid' hPi
        have i1 : (M1 : Int) - 1 = (m : Int) := by omega
        have hm5 : m ≤ 501 := by rw [HEN.out]; have := HJ.out; omega
        clear hb22 ho22 htl hPd hPi hPC HU21 HG21 HO21
        go_wp2_with fail
        refine HPC.out.mono ?_
        rintro e w23 ⟨rfl, hw23⟩
        have hB23 : Below w22.heap.size w22 w23 := by rw [hw23]; exact bel_alloc (bel_refl _) _
        have hRP : Rd w23 (some ⟨w22.heap.size, 0, none⟩) (P.map .string) := by rw [hw23]; exact (Blk.new_ w22 _ _).rd rfl
        have HL23 := hid' (bel_then HL22.out hB23)
        have HO23 := hid' (own_below HO22.out hB23)
        have HG23 := hid' (HG22.out.below hB23)
        obtain ⟨adP, hadP⟩ : ∃ a : Addr, a = ⟨w22.heap.size, 0, none⟩ := ⟨_, rfl⟩
        rw [← hadP] at hRP ⊢
        have HRP := hid' hRP
        have HO0 := hid' (World.ownsRow_nil w23 w23.heap.size 53 1)
        have hcut := cut_h (P := Tryz.prog) 48 9 1 Tryz.underlying48 (by kernel_rfl) (some adP) M1 M1 m (by omega)
        clear hw23 hB23 hRP hadP HPC hM1
        go_wp2_with fail
        go_loopw [11, 75] (fun v11 v75 wr => ∃ i : Nat, i ≤ m ∧ v75 = .int .i64 i ∧ wr.ownsRow w23.heap.size 53 1 v11 i ((E.take i).map evV) ∧ Below w23.heap.size w23 wr) (fun _ v75 _ => m - (intOf v75).toNat)
        case atStart => exact ⟨0, Nat.zero_le _, rfl, HO0.out, bel_refl _⟩
        case round =>
          clear hcut i1 hPl
          obtain ⟨i, hi, rfl, hO, hL⟩ := hrel
          have HO := hid' hO
          have HL := hid' hL
          clear hO
          by_cases hlt : i < m
          · obtain ⟨x, hx⟩ : ∃ x, E[i]? = some x := ⟨_, List.getElem?_eq_getElem (by rw [← HEM.out]; exact hlt)⟩
            obtain ⟨hxi, hxz⟩ := HIE.out x (List.mem_of_getElem? hx)
            obtain ⟨ad9, e9, hcell⟩ := (HRP.out.below hL) i (.string (strOf (lineE x))) (by rw [List.getElem?_map, HPI.out i x hx]; rfl)
            cases e9
            have hpp := HEP.out x (List.mem_of_getElem? hx)
            have hll := lineE_len hxi hxz
            have HL3 := hid' (bel_then HL23.out hL)
            have hRE := event_Read (strOf (lineE x)) wr (by show (lineE x).length ≤ _; omega) (HP.out.below HL3.out) (HE.out.below HL3.out) (HM.out.below HL3.out) (HT.out.below HL3.out) (HZ.out.below HL3.out)
            rw [bL_str, readE_line hxi] at hRE
            have hPA := fun W => event_Part x W
            rw [hpp] at hPA
            obtain ⟨tv, vv, hv⟩ := evV_if x
            have hRE2 : Calls Tryz.prog 14 #[.string (strOf (lineE x))] wr fun e w' => e = .returned (.tuple #[.iface tv vv, .bool true]) ∧ Below wr.heap.size wr w' := by rw [← hv]; exact hRE
            rw [hv] at hPA
            have HRE := hid' hRE2
            have HPA := hid' hPA
            have HXE := hid' (show (E.take (i + 1)).map evV = (E.take i).map evV ++ [.iface tv vv] by rw [List.take_add_one, hx, List.map_append, ← hv]; rfl)
            generalize strOf (lineE x) = LX at *
            clear hx hxi hxz hpp hll hRE hRE2 hPA hv hL
            go_wp2_with fail
            refine HRE.out.mono ?_
            rintro e w24 ⟨rfl, hB24⟩
            go_wp2_with fail
            refine (HPA.out w24).mono ?_
            rintro e w25 ⟨rfl, hB25⟩
            have HL25 := hid' (bel_then HL.out (bel_then hB24 hB25))
            have HO25 := hid' (own_below HO.out (bel_then hB24 hB25))
            have hbase := HL25.out.size
            have hone := hid' (show ∀ u ∈ [(.iface tv vv : Value)], u.oneCell' = true by intro u hu; rw [List.mem_singleton] at hu; subst hu; rfl)
            have hby : (i + 1) * 16 ≤ 140737488355328 := by omega
            clear hB24 hB25
            go_wp2_with (at_builtin; (refine ap_cells w23.heap.size rfl _ _ 51 53 .nilIface 1 16 rfl (by kernel_rfl) (by kernel_rfl) rfl (by decide) (by decide) u11 i ((E.take i).map evV) [.iface tv vv] rfl rfl rfl hone.out HO25.out hbase hby ?_); intro v1 w5 hown hg hat)
            go_roundw
            case rel => exact ⟨i + 1, by omega, by go_num, by rw [HXE.out]; exact hown, bel_mod HL25.out (Mod.of_grown hg) (fun i hi h => by have := own_base' HO25.out i h; omega)⟩
            case measure => (simp only [intOf]; omega)
          · obtain rfl : i = m := by omega
            rw [show E.take i = E from List.take_of_length_le (Nat.le_of_eq HEM.out.symm)] at HO
            obtain ⟨A3, c3, hv3, -, -, hrd⟩ := own_rd HO.out
            subst hv3
            have hEb : E.length ≤ 100000 := by rw [← HEM.out]; omega
            have HOE := hid' (fun W hW => of_elem A3 c3 E W hW hEb)
            have HOT := hid' (fun W hW => of_fault A3 c3 E W hW hEb)
            have hft7 : (ftL E).length = 1 := by rw [HEF.out]; rfl
            rw [← HEM.out, HEL.out] at HOE
            rw [← HEM.out, hft7] at HOT
            rw [List.length_map, HLEN.out] at HOE
            have HRE := hid' hrd
            have HG30 := hid' (HG23.out.below HL.out)
            have HO30 := hid' (own_below HO23.out HL.out)
            have HL30 := hid' (bel_then HL23.out HL.out)
            clear hrd hEb hL hft7
            skip
            go_wp2_with fail
            refine (HOE.out _ HRE.out).mono ?_
            rintro e w31 ⟨v31, rfl, hO31, hB31⟩
            go_wp2_with fail
            refine (HOT.out _ (HRE.out.below hB31)).mono ?_
            rintro e w32 ⟨v32, rfl, hO32, hB32⟩
            obtain ⟨A5, c5, hv5, -, -, hr5⟩ := own_rd hO31
            obtain ⟨A7, c7, hv7, -, -, hr7⟩ := own_rd hO32
            subst hv5 hv7
            obtain ⟨L, hL⟩ : ∃ L, L = (pSt s k2).1 := ⟨_, rfl⟩
            rw [← hL] at hr5
            have HLL := hid' (show L.length = k2 by rw [hL]; exact HLEN.out)
            have hrow := own_below (own_below HO30.out hB31) hB32
            rw [← hL] at hrow
            obtain ⟨A9, c9, hv9, -, -, hr9⟩ := own_rd hrow
            injection hv9 with hv9a hv9b hv9c
            subst hv9a
            have HR9 := hid' (rd_recS hr9)
            have HR5 := hid' ((trd_rdS (f := fEl) (sz := 5) (fun _ => rfl) (by decide) hr5).below hB32)
            have HR7 := hid' hr7
            have HG32 := hid' ((HG30.out.below hB31).below hB32)
            have HL32 := hid' (bel_then (bel_then HL30.out hB31) hB32)
            have a0 : w32.cell? ⟨w20.heap.size, 0, none⟩ = some (.slice A1 k2 c1) := HG32.out.cell 0
            have a2 : w32.cell? ⟨w20.heap.size, 2, none⟩ = some (.int .i64 er) := HG32.out.cell 2
            have hmm : (k2 : Int) + 1 = (i : Int) := (by have := HEN.out; omega)
            clear hO31 hO32 hB31 hB32 hr5 hr7 hr9 hrow hL hv9b hv9c
            go_wp2_with fail
            clear a0 a2
            clear hmm
            have hk5 := HJ.out
            go_loopw [133] (fun v133 wr => ∃ q : Nat, q ≤ k2 ∧ v133 = .int .i64 q ∧ Below w32.heap.size w32 wr) (fun v133 _ => k2 - (intOf v133).toNat)
            case atStart => exact ⟨0, Nat.zero_le _, rfl, bel_refl _⟩
            case round =>
              obtain ⟨q, hq, rfl, hLq⟩ := hrel
              have HLq := hid' hLq
              by_cases hlt3 : q < k2
              · obtain ⟨r, hr⟩ : ∃ r, L[q]? = some r := ⟨_, List.getElem?_eq_getElem (by rw [HLL.out]; exact hlt3)⟩
                obtain ⟨ad1, e1, q0, q1, q2⟩ := (HR9.out.below hLq).rec hr
                subst e1
                obtain ⟨ad5, e5, -, hc⟩ := (HR5.out.below hLq) q (p, r.1, r.2.1, r.2.2, false) (by rw [List.getElem?_map, hr]; rfl)
                subst e5
                obtain ⟨rk, rt, rx⟩ := r
                simp only at q0 q1 q2 hc
                have g0 : wr.cell? (ad5.add (q * 5)) = some (.int .i64 p) := hc 0 _ rfl
                have g1 : wr.cell? ⟨(ad5.add (q * 5)).block, (ad5.add (q * 5)).off + 1, none⟩ = some (.int .i64 rk) := hc 1 _ rfl
                have g2 : wr.cell? ⟨(ad5.add (q * 5)).block, (ad5.add (q * 5)).off + 2, none⟩ = some (.int .i64 rt) := hc 2 _ rfl
                have g3 : wr.cell? ⟨(ad5.add (q * 5)).block, (ad5.add (q * 5)).off + 3, none⟩ = some (.string rx) := hc 3 _ rfl
                have g4 : wr.cell? ⟨(ad5.add (q * 5)).block, (ad5.add (q * 5)).off + 4, none⟩ = some (.bool false) := hc 4 _ rfl
                have hb1 := bel_alloc (bel_refl wr) (.cells #[.int .i64 p, .int .i64 rk, .int .i64 rt, .string rx, .bool false] 42)
                have HK1 := hid' (Blk.new_ wr 42 #[.int .i64 p, .int .i64 rk, .int .i64 rt, .string rx, .bool false])
                have HB1 := hid' (bel_then HLq.out hb1)
                have Q0 := hid' ((hb1.cell (World.block_lt_of_cell? wr _ q0)).trans q0)
                have Q1 := hid' ((hb1.cell (World.block_lt_of_cell? wr _ q1)).trans q1)
                have Q2 := hid' ((hb1.cell (World.block_lt_of_cell? wr _ q2)).trans q2)
                have HGa := hid' ((HG32.out.below hLq).below hb1)
                clear hr hc hb1 q0 q1 q2 hLq
                go_wp2
                generalize wr.alloc (.cells #[.int .i64 p, .int .i64 rk, .int .i64 rt, .string rx, .bool false] 42) = wa at *
                have q0 := Q0.out
                have q1 := Q1.out
                have q2 := Q2.out
                have n1 : wa.cell? ⟨wr.heap.size, 1, none⟩ = some (.int .i64 rk) := HK1.out.cell 1
                have n2 : wa.cell? ⟨wr.heap.size, 2, none⟩ = some (.int .i64 rt) := HK1.out.cell 2
                have n3 : wa.cell? ⟨wr.heap.size, 3, none⟩ = some (.string rx) := HK1.out.cell 3
                have n4 : wa.cell? ⟨wr.heap.size, 4, none⟩ = some (.bool false) := HK1.out.cell 4
                have a0 : wa.cell? ⟨w20.heap.size, 0, none⟩ = some (.slice (some ad1) k2 c1) := HGa.out.cell 0
                clear g0 g1 g2 g3 g4
                go_quiet (fail)
                all_goals
                  go_wp2
                  go_roundw
                  case rel => exact ⟨q + 1, by omega, by go_num, by first | exact HB1.out | exact bel_drewN HB1.out _⟩
                  case measure => (simp only [intOf]; omega)
              · obtain rfl : q = k2 := by omega
                have HLe := hid' (bel_then HL32.out hLq)
                have HG9 := hid' (HG32.out.below hLq)
                have a2 : wr.cell? ⟨w20.heap.size, 2, none⟩ = some (.int .i64 er) := HG9.out.cell 2
                have HR8 := hid' (HR7.out.below hLq)
                rw [HEF.out] at HR8
                clear hLq
                obtain ⟨ad7, e7, f1⟩ := HR8.out 1 (.int .i64 er) rfl; subst e7; change wr.cell? ⟨ad7.block, ad7.off + 1, none⟩ = _ at f1
                go_wp2_with fail
                go_quiet (fail)
                all_goals
                  go_wp2
                  go_ret
                  exact ⟨rfl, by first | exact HLe.out | exact bel_drewN HLe.out _⟩
end Go.Proofs.YtioaijjmialdoaaGreatDoor
