
/- The laws of events (package tidewaiterlaw22), walked. No condition but the tables and variables of Go's own library. -/
import Derived.Test.YtioaijjmialdoaaDoorEventT
import Derived.Test.YtioaijjmialdoaaDoorEventR
import Derived.Test.YtioaijjmialdoaaDoorOpen
namespace Go.Proofs.YtioaijjmialdoaaDoor
set_option maxRecDepth 100000
set_option linter.unusedSimpArgs false
open Go.RowKit
set_option linter.unusedVariables false
set_option linter.unusedSimpArgs false

theorem sp22_line : lineE (.elem 0 1 7 ⟨#[97]⟩ true) = [108, 97, 116, 101, 32, 48, 32, 49, 32, 55, 32, 34, 97, 34] := by
  have i0 : Lib.itoa 0 = [48] := itoa_pos_small (n := 0) (by decide)
  have i1 : Lib.itoa 1 = [49] := itoa_pos_small (n := 1) (by decide)
  have i7 : Lib.itoa 7 = [55] := itoa_pos_small (n := 7) (by decide)
  have hq : quoteP ⟨#[97]⟩ = [34, 97, 34] := by decide +kernel
  show (if true = true then wLate else wElement) ++ wordsL [0, 1, 7] ++ 32 :: quoteP ⟨#[97]⟩ = _
  rw [words_cons, words_cons, words_cons, words_nil, i0, i1, i7, hq]
  rfl
theorem sp22_read : readE (bL ⟨#[108, 97, 116, 101, 32, 48, 32, 49, 32, 55, 32, 34, 97, 34]⟩) = some (.elem 0 1 7 ⟨#[97]⟩ true) := by
  have h := readE_line (e := .elem 0 1 7 ⟨#[97]⟩ true) ⟨by unfold I64; decide, by unfold I64; decide, by unfold I64; decide⟩
  rw [sp22_line] at h
  exact h
theorem sp22_text : strOf (textE [.mark 5]) = ⟨#[109, 97, 114, 107, 32, 53, 10]⟩ := by
  have i5 : Lib.itoa 5 = [53] := itoa_pos_small (n := 5) (by decide)
  show strOf (wMark ++ wordsL [5] ++ [10] ++ []) = _
  rw [words_cons, words_nil, i5]
  rfl
theorem eq_elem (p k t : Int) (x : ByteArray) (b : Bool) (u : Value) (hu : u = .iface 41 (.agg #[.int .i64 p, .int .i64 k, .int .i64 t, .string x, .bool b])) (w : World) : (binOp .eql 24 u u).run Tryd.prog w = .ok (.bool true) w := by
  obtain ⟨i, hi, hc⟩ := Option.map_eq_some_iff.1 (show (Tryd.prog.info? 41).map (·.comparable) = some true by kernel_rfl)
  have h : ∀ d : Nat, (Op.equalIn (d + 5) 24 u u).run Tryd.prog w = .ok true w := fun d => by
    rw [hu]
    unfold Op.equalIn
    simp [run_underlying Tryd.underlying24, typeInfo, hi, hc]
    unfold Op.equalIn
    go_simp
  subst hu
  simp only [binOp]
  simp [Op.equal, Op.maxDepth, h 9995]
theorem eq_mark (a : Int) (u : Value) (hu : u = .iface 45 (.agg #[.int .i64 a])) (w : World) : (binOp .eql 24 u u).run Tryd.prog w = .ok (.bool true) w := by
  obtain ⟨i, hi, hc⟩ := Option.map_eq_some_iff.1 (show (Tryd.prog.info? 45).map (·.comparable) = some true by kernel_rfl)
  have h : ∀ d : Nat, (Op.equalIn (d + 5) 24 u u).run Tryd.prog w = .ok true w := fun d => by
    rw [hu]
    unfold Op.equalIn
    simp [run_underlying Tryd.underlying24, typeInfo, hi, hc]
    unfold Op.equalIn
    go_simp
  subst hu
  simp only [binOp]
  simp [Op.equal, Op.maxDepth, h 9995]
theorem eq_fault (a c : Int) (u : Value) (hu : u = .iface 50 (.agg #[.int .i64 a, .int .i64 c])) (w : World) : (binOp .eql 24 u u).run Tryd.prog w = .ok (.bool true) w := by
  obtain ⟨i, hi, hc⟩ := Option.map_eq_some_iff.1 (show (Tryd.prog.info? 50).map (·.comparable) = some true by kernel_rfl)
  have h : ∀ d : Nat, (Op.equalIn (d + 5) 24 u u).run Tryd.prog w = .ok true w := fun d => by
    rw [hu]
    unfold Op.equalIn
    simp [run_underlying Tryd.underlying24, typeInfo, hi, hc]
    unfold Op.equalIn
    go_simp
  subst hu
  simp only [binOp]
  simp [Op.equal, Op.maxDepth, h 9995]
set_option maxHeartbeats 8000000 in
theorem speaks22 (w : World) (hP : PowT w) (hE : ErV w) (hM : MaxT w) (hT : U8T w) (hZ : TzT w) :
    Calls Tryd.prog 6 #[] w fun e w' => e = .returned (.bool true) ∧ Below w.heap.size w w' := by
  have hR := event_Read ⟨#[108, 97, 116, 101, 32, 48, 32, 49, 32, 55, 32, 34, 97, 34]⟩ w (by decide) hP hE hM hT hZ
  rw [sp22_read] at hR
  have HR := hid' hR
  have HP := hid' hP
  have HT := hid' hT
  have HZ := hid' hZ
  clear hR hP hE hM hT hZ
  go_enter Tryd.func6, Tryd.ntmps6
  go_wp2_with fail
  refine HR.out.mono ?_
  rintro e w1 ⟨rfl, hB1⟩
  have HL1 := hid' hB1
  have hb2 := bel_alloc (bel_refl w1) (.cells #[.iface 45 (.agg #[.int .i64 5])] 24)
  have HL2 := hid' (bel_then hB1 hb2)
  have hTx := event_Text (some ⟨w1.heap.size, 0, none⟩) 1 [.mark 5] (w1.alloc (.cells #[.iface 45 (.agg #[.int .i64 5])] 24)) ((Blk.new_ w1 24 #[.iface 45 (.agg #[.int .i64 5])]).rd rfl) (by simp) (by intro e he; rw [List.mem_singleton] at he; subst he; exact ⟨(by show I64 5; unfold I64; decide), trivial⟩) (HP.out.below HL2.out) (HT.out.below HL2.out) (HZ.out.below HL2.out)
  rw [sp22_text] at hTx
  have HTx := hid' hTx
  clear hTx hb2 hB1
  unfold evO evV
  go_wp2_with fail
  rw [eq_elem 0 1 7 ⟨#[97]⟩ true _ rfl]
  go_wp2_with fail
  refine HTx.out.mono ?_
  rintro e w3 ⟨rfl, hB3⟩
  have HL3 := hid' (bel_then HL2.out hB3)
  have HLa := hid' (event_Last none 0 [] w3 (fun j u hj => by simp at hj) (by simp))
  clear hB3
  go_wp2_with fail
  refine HLa.out.mono ?_
  rintro e w4 ⟨rfl, hB4⟩
  have HL4 := hid' (bel_then HL3.out hB4)
  clear hB4
  unfold evLast
  go_wp2
  go_ret
  exact ⟨rfl, HL4.out⟩
theorem eq_ev (e : Ev) (w : World) : (binOp .eql 24 (evV e) (evV e)).run Tryd.prog w = .ok (.bool true) w := by
  cases e with
  | elem p k t x b => exact eq_elem p k t x b _ rfl w
  | mark a => exact eq_mark a _ rfl w
  | fault p c => exact eq_fault p c _ rfl w
def RPd (w : World) (cs : List Value) (x : PD) : Prop := cs.length = 8 ∧ (RInt .i64) w ((cs.drop 0).take 1) x.1 ∧ (RInt .i64) w ((cs.drop 1).take 1) x.2.1 ∧ RRec w ((cs.drop 2).take 3) x.2.2.1 ∧ RBool w ((cs.drop 5).take 1) x.2.2.2.1 ∧ (RInt .i64) w ((cs.drop 6).take 1) x.2.2.2.2.1 ∧ (RInt .i64) w ((cs.drop 7).take 1) x.2.2.2.2.2
def pdI (x : PD) : Prop := I64 x.2.1 ∧ I64 x.2.2.1.1 ∧ I64 x.2.2.1.2.1 ∧ I64 x.2.2.2.2.1 ∧ I64 x.2.2.2.2.2
theorem RPd.cells {w : World} {cs : List Value} {x : PD} (h : RPd w cs x) : cs = fPd x ∧ pdI x ∧ x.2.2.1.2.2.size ≤ maxLen := by
  obtain ⟨hl, ⟨h1, w1⟩, ⟨h2, w2⟩, hr, h4, ⟨h5, w5⟩, ⟨h6, w6⟩⟩ := h
  obtain ⟨hr, i1, i2, hz⟩ := hr.cells
  unfold RBool at h4
  match cs, hl with
  | [a, b, c, d, e, f, g, k], _ =>
    simp at h1 h2 hr h4 h5 h6
    obtain ⟨rfl, rfl, rfl⟩ := hr
    subst h1 h2 h4 h5 h6
    exact ⟨rfl, ⟨I64.of_wf w2, i1, i2, I64.of_wf w5, I64.of_wf w6⟩, hz⟩
/-- the event of tidy plain data -/
def pdEv (x : PD) : Ev := pdE x.1 x.2.1 x.2.2.1 x.2.2.2.1 x.2.2.2.2.1 x.2.2.2.2.2
theorem tidy_ev (x : PD) : pdEv (tidyP x) = pdEv x := by
  unfold pdEv tidyP pdE
  by_cases h1 : x.1 = 1
  · simp [h1]
  · by_cases h2 : x.1 = 2
    · simp [h2]
    · simp [h1, h2]
theorem tidy_of (x : PD) : tidyP x = pdOf (pdEv x) := by
  unfold pdEv tidyP pdE pdOf
  by_cases h1 : x.1 = 1
  · simp [h1]
  · by_cases h2 : x.1 = 2
    · simp [h2]
    · simp [h1, h2]
theorem pdEv_I {x : PD} (h : pdI x) (hz : x.2.2.1.2.2.size ≤ 1000) : evI (pdEv x) ∧ evZ (pdEv x) := by
  obtain ⟨h1, h2, h3, h4, h5⟩ := h
  unfold pdEv pdE
  by_cases k1 : x.1 = 1
  · rw [if_pos k1]; exact ⟨h4, trivial⟩
  · rw [if_neg k1]
    by_cases k2 : x.1 = 2
    · rw [if_pos k2]; exact ⟨⟨h1, h5⟩, trivial⟩
    · rw [if_neg k2]; exact ⟨⟨h1, h2, h3⟩, hz⟩
theorem ungo_le : ∀ (f : Nat) (acc l x : List UInt8), unqGo f acc l = some x → x.length ≤ acc.length + l.length := by
  intro f
  induction f with
  | zero =>
    intro acc l x h
    unfold unqGo at h
    split at h
    · simp only [Option.some.injEq] at h; subst h; omega
    · cases h
  | succ f ih =>
    intro acc l x h
    unfold unqGo at h
    split at h
    · simp only [Option.some.injEq] at h; subst h; omega
    · rename_i hl
      split at h
      · cases h
      · have h1 := ih _ _ _ h
        have h2 := piece_le l hl
        rw [List.length_append, List.length_drop] at h1
        omega
theorem unp_le {q x : List UInt8} (h : unqP q = some x) : x.length ≤ q.length := by
  unfold unqP at h
  split at h
  · cases h
  · split at h
    · cases h
    · rename_i y hy
      split at h
      · simp only [Option.some.injEq] at h
        subst h
        have := ungo_le _ _ _ _ hy
        simp only [List.length_nil, List.length_take, List.length_drop] at this
        omega
      · cases h
theorem quoteP_ge (x : ByteArray) : x.size ≤ (quoteP x).length := by
  have := unp_le (unqP_quote x)
  rw [bL_len] at this
  exact this
theorem ne_ev (e : Ev) (w : World) : (binOp .neq 24 (evV e) .nilIface).run Tryd.prog w = .ok (.bool true) w := by
  cases e <;> kernel_rfl
theorem ng_ev (e : Ev) (o : Operand) (w : World) : (eqGuard .neq 24 o (.const .nilIface) (evV e) .nilIface).run Tryd.prog w = .ok () w := by
  cases e <;> kernel_rfl
/-! ### EventReads -/
set_option maxHeartbeats 8000000 in
theorem eventReads (s : ByteArray) (w : World) (hs : s.size ≤ maxLen) (hP : PowT w) (hE : ErV w) (hM : MaxT w) (hT : U8T w) (hZ : TzT w) :
    Calls Tryd.prog 3 #[.string s] w fun e w' => e = .returned (.bool true) ∧ Below w.heap.size w w' := by
  have hs' : s.size ≤ 9223372036854775807 := hs
  have HS := hid' (speaks22 w hP hE hM hT hZ)
  have HP := hid' hP
  have HE := hid' hE
  have HM := hid' hM
  have HT := hid' hT
  have HZ := hid' hZ
  clear hP hE hM hT hZ hs
  by_cases hbig : 500 < s.size
  · go_enter Tryd.func3, Tryd.ntmps3
    go_wp2_with fail
    refine HS.out.mono ?_
    rintro e w1 ⟨rfl, hB1⟩
    go_wp2
    go_ret
    exact ⟨rfl, hB1⟩
  have HR := hid' (fun W hP hE hM hT hZ => event_Read s W (by omega) hP hE hM hT hZ)
  obtain ⟨o, ho⟩ : ∃ o, o = readE (bL s) := ⟨_, rfl⟩
  rw [← ho] at HR
  have HO := hid' ho
  clear ho
  go_enter Tryd.func3, Tryd.ntmps3
  go_wp2_with fail
  refine HS.out.mono ?_
  rintro e w1 ⟨rfl, hB1⟩
  have HL1 := hid' hB1
  clear hB1
  go_wp2_with fail
  refine (HR.out w1 (HP.out.below HL1.out) (HE.out.below HL1.out) (HM.out.below HL1.out) (HT.out.below HL1.out) (HZ.out.below HL1.out)).mono ?_
  rintro e w2 ⟨rfl, hB2⟩
  have HL2 := hid' (bel_then HL1.out hB2)
  clear hB2
  cases o with
  | none =>
    unfold evO
    go_wp2
    go_ret
    exact ⟨rfl, HL2.out⟩
  | some ev =>
    obtain ⟨hline, hI⟩ := readE_some HO.out.symm
    have hb3 := bel_alloc (bel_refl w2) (.cells #[evV ev] 24)
    have HL3 := hid' (bel_then HL2.out hb3)
    have HPL := hid' (law22_Plain (some ⟨w2.heap.size, 0, none⟩) 1 [ev] _ ((Blk.new_ w2 24 #[evV ev]).rd rfl) (by simp))
    have hzz : evZ ev := by
      cases ev with
      | mark a => trivial
      | fault p c => trivial
      | elem p k t x b =>
        show x.size ≤ 1000
        have h1 : (lineE (.elem p k t x b)).length = s.size := by rw [hline, bL_len]
        have h2 : (lineE (.elem p k t x b)) = (if b = true then wLate else wElement) ++ wordsL [p, k, t] ++ 32 :: quoteP x := rfl
        rw [h2] at h1
        simp only [List.length_append, List.length_cons] at h1
        have h3 := quoteP_ge x
        omega
    have HLI := hid' (fun W => ref22_Line (pdOf ev).1 (pdOf ev).2.1 (pdOf ev).2.2.1.1 (pdOf ev).2.2.1.2.1 (pdOf ev).2.2.1.2.2 (pdOf ev).2.2.2.1 (pdOf ev).2.2.2.2.1 (pdOf ev).2.2.2.2.2 W (by cases ev <;> simp [pdOf, evI] at hI ⊢ <;> (try unfold I64 at *) <;> (try omega)) (by cases ev <;> first | exact hzz | (show (0 : Nat) ≤ 1000; omega)))
    have hb1 : bL s = lineE ev := hline.symm
    have hpe : strOf (lineE (pdE (pdOf ev).1 (pdOf ev).2.1 ((pdOf ev).2.2.1.1, (pdOf ev).2.2.1.2.1, (pdOf ev).2.2.1.2.2) (pdOf ev).2.2.2.1 (pdOf ev).2.2.2.2.1 (pdOf ev).2.2.2.2.2)) = s := by
      have := pdE_of ev
      rw [this, ← hb1]
      exact bL_inj (bL_str _)
    rw [hpe] at HLI
    clear hb1 hline hI hzz hb3 HO HR hpe
    obtain ⟨P1, hP1⟩ : ∃ P1, P1 = pdOf ev := ⟨_, rfl⟩
    rw [← hP1] at HLI
    cases ev with
    | elem p k t x b =>
      unfold evO
      simp only [evV] at HPL ⊢
      go_wp2_with fail
      refine HPL.out.mono ?_
      rintro e w4 ⟨v, rfl, hO4, hB4⟩
      obtain ⟨A4, c4, rfl, -, -, hrd⟩ := own_rd hO4
      have HL4 := hid' (bel_then HL3.out hB4)
      have hrd2 : Rd w4 A4 (fPd P1) := by rw [hP1]; have h := hrd; simp only [List.map_cons, List.map_nil, List.flatMap_cons, List.flatMap_nil, List.append_nil] at h; exact h
      obtain ⟨k, p, ⟨rk, rt, rx⟩, lt, at_, er⟩ := P1
      obtain ⟨ad, hA, c0⟩ := hrd2 0 (.int .i64 k) rfl
      subst hA
      obtain ⟨ad1, hA, c1⟩ := hrd2 1 (.int .i64 p) rfl
      cases hA
      obtain ⟨ad1, hA, c2⟩ := hrd2 2 (.int .i64 rk) rfl
      cases hA
      obtain ⟨ad1, hA, c3⟩ := hrd2 3 (.int .i64 rt) rfl
      cases hA
      obtain ⟨ad1, hA, c4⟩ := hrd2 4 (.string rx) rfl
      cases hA
      obtain ⟨ad1, hA, c5⟩ := hrd2 5 (.bool lt) rfl
      cases hA
      obtain ⟨ad1, hA, c6⟩ := hrd2 6 (.int .i64 at_) rfl
      cases hA
      obtain ⟨ad1, hA, c7⟩ := hrd2 7 (.int .i64 er) rfl
      cases hA
      change w4.cell? ad = _ at c0
      change w4.cell? ⟨ad.block, ad.off + 1, none⟩ = _ at c1
      change w4.cell? ⟨ad.block, ad.off + 2, none⟩ = _ at c2
      change w4.cell? ⟨ad.block, ad.off + 3, none⟩ = _ at c3
      change w4.cell? ⟨ad.block, ad.off + 4, none⟩ = _ at c4
      change w4.cell? ⟨ad.block, ad.off + 5, none⟩ = _ at c5
      change w4.cell? ⟨ad.block, ad.off + 6, none⟩ = _ at c6
      change w4.cell? ⟨ad.block, ad.off + 7, none⟩ = _ at c7
      clear hrd hrd2 hO4 hB4 hP1
      go_wp2_with fail
      refine (HLI.out w4).mono ?_
      rintro e w5 ⟨rfl, hB5⟩
      have HL5 := hid' (bel_then HL4.out hB5)
      clear hB5
      go_wp2
      go_ret
      exact ⟨rfl, HL5.out⟩
    | mark a =>
      unfold evO
      simp only [evV] at HPL ⊢
      go_wp2_with fail
      refine HPL.out.mono ?_
      rintro e w4 ⟨v, rfl, hO4, hB4⟩
      obtain ⟨A4, c4, rfl, -, -, hrd⟩ := own_rd hO4
      have HL4 := hid' (bel_then HL3.out hB4)
      have hrd2 : Rd w4 A4 (fPd P1) := by rw [hP1]; have h := hrd; simp only [List.map_cons, List.map_nil, List.flatMap_cons, List.flatMap_nil, List.append_nil] at h; exact h
      obtain ⟨k, p, ⟨rk, rt, rx⟩, lt, at_, er⟩ := P1
      obtain ⟨ad, hA, c0⟩ := hrd2 0 (.int .i64 k) rfl
      subst hA
      obtain ⟨ad1, hA, c1⟩ := hrd2 1 (.int .i64 p) rfl
      cases hA
      obtain ⟨ad1, hA, c2⟩ := hrd2 2 (.int .i64 rk) rfl
      cases hA
      obtain ⟨ad1, hA, c3⟩ := hrd2 3 (.int .i64 rt) rfl
      cases hA
      obtain ⟨ad1, hA, c4⟩ := hrd2 4 (.string rx) rfl
      cases hA
      obtain ⟨ad1, hA, c5⟩ := hrd2 5 (.bool lt) rfl
      cases hA
      obtain ⟨ad1, hA, c6⟩ := hrd2 6 (.int .i64 at_) rfl
      cases hA
      obtain ⟨ad1, hA, c7⟩ := hrd2 7 (.int .i64 er) rfl
      cases hA
      change w4.cell? ad = _ at c0
      change w4.cell? ⟨ad.block, ad.off + 1, none⟩ = _ at c1
      change w4.cell? ⟨ad.block, ad.off + 2, none⟩ = _ at c2
      change w4.cell? ⟨ad.block, ad.off + 3, none⟩ = _ at c3
      change w4.cell? ⟨ad.block, ad.off + 4, none⟩ = _ at c4
      change w4.cell? ⟨ad.block, ad.off + 5, none⟩ = _ at c5
      change w4.cell? ⟨ad.block, ad.off + 6, none⟩ = _ at c6
      change w4.cell? ⟨ad.block, ad.off + 7, none⟩ = _ at c7
      clear hrd hrd2 hO4 hB4 hP1
      go_wp2_with fail
      refine (HLI.out w4).mono ?_
      rintro e w5 ⟨rfl, hB5⟩
      have HL5 := hid' (bel_then HL4.out hB5)
      clear hB5
      go_wp2
      go_ret
      exact ⟨rfl, HL5.out⟩
    | fault p c =>
      unfold evO
      simp only [evV] at HPL ⊢
      go_wp2_with fail
      refine HPL.out.mono ?_
      rintro e w4 ⟨v, rfl, hO4, hB4⟩
      obtain ⟨A4, c4, rfl, -, -, hrd⟩ := own_rd hO4
      have HL4 := hid' (bel_then HL3.out hB4)
      have hrd2 : Rd w4 A4 (fPd P1) := by rw [hP1]; have h := hrd; simp only [List.map_cons, List.map_nil, List.flatMap_cons, List.flatMap_nil, List.append_nil] at h; exact h
      obtain ⟨k, p, ⟨rk, rt, rx⟩, lt, at_, er⟩ := P1
      obtain ⟨ad, hA, c0⟩ := hrd2 0 (.int .i64 k) rfl
      subst hA
      obtain ⟨ad1, hA, c1⟩ := hrd2 1 (.int .i64 p) rfl
      cases hA
      obtain ⟨ad1, hA, c2⟩ := hrd2 2 (.int .i64 rk) rfl
      cases hA
      obtain ⟨ad1, hA, c3⟩ := hrd2 3 (.int .i64 rt) rfl
      cases hA
      obtain ⟨ad1, hA, c4⟩ := hrd2 4 (.string rx) rfl
      cases hA
      obtain ⟨ad1, hA, c5⟩ := hrd2 5 (.bool lt) rfl
      cases hA
      obtain ⟨ad1, hA, c6⟩ := hrd2 6 (.int .i64 at_) rfl
      cases hA
      obtain ⟨ad1, hA, c7⟩ := hrd2 7 (.int .i64 er) rfl
      cases hA
      change w4.cell? ad = _ at c0
      change w4.cell? ⟨ad.block, ad.off + 1, none⟩ = _ at c1
      change w4.cell? ⟨ad.block, ad.off + 2, none⟩ = _ at c2
      change w4.cell? ⟨ad.block, ad.off + 3, none⟩ = _ at c3
      change w4.cell? ⟨ad.block, ad.off + 4, none⟩ = _ at c4
      change w4.cell? ⟨ad.block, ad.off + 5, none⟩ = _ at c5
      change w4.cell? ⟨ad.block, ad.off + 6, none⟩ = _ at c6
      change w4.cell? ⟨ad.block, ad.off + 7, none⟩ = _ at c7
      clear hrd hrd2 hO4 hB4 hP1
      go_wp2_with fail
      refine (HLI.out w4).mono ?_
      rintro e w5 ⟨rfl, hB5⟩
      have HL5 := hid' (bel_then HL4.out hB5)
      clear hB5
      go_wp2
      go_ret
      exact ⟨rfl, HL5.out⟩
end Go.Proofs.YtioaijjmialdoaaDoor
