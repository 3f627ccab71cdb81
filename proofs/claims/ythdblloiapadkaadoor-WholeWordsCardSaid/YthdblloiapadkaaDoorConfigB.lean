
/- Rules in words, both ways of saying it (config.Rule, tidewaiterref19.Rule, Only), walked. No condition but the tables and variables of Go's own library. -/
import Derived.Test.YthdblloiapadkaaDoorConfig
namespace Go.Proofs.YthdblloiapadkaaDoor
set_option maxRecDepth 100000
set_option linter.unusedSimpArgs false
open Go.RowKit
set_option linter.unusedVariables false
set_option linter.unusedSimpArgs false

abbrev Rl := Int × Int × Int × Int × Int
def rlI (r : Rl) : Prop := I64 r.1 ∧ I64 r.2.1 ∧ I64 r.2.2.1 ∧ I64 r.2.2.2.1 ∧ I64 r.2.2.2.2
def wBounded : List UInt8 := [98, 111, 117, 110, 100, 101, 100]
def wMarked : List UInt8 := [109, 97, 114, 107, 101, 100]
def wPercent : List UInt8 := [112, 101, 114, 99, 101, 110, 116]
def wSource : List UInt8 := [115, 111, 117, 114, 99, 101]
/-- a rule in words -/
def ruleL (k b p n s : Int) : List UInt8 :=
  if k = 0 then lnL wBounded [b] else if k = 1 then lnL wMarked [s] else if k = 2 then lnL wPercent [p, n] else []
def onlyB (k b p n s : Int) : Bool :=
  if k = 0 then s == 0 && p == 0 && n == 0 else if k = 1 then b == 0 && p == 0 && n == 0 else if k = 2 then b == 0 && s == 0 else false
theorem namesQ (w : World) : ∀ d os, Calls Tryd.prog 67 #[] (Go.Sort.grow (redrawn w d) os) fun e w'' => e = .returned (.agg #[.string ⟨#[98, 111, 117, 110, 100, 101, 100]⟩, .string ⟨#[109, 97, 114, 107, 101, 100]⟩, .string ⟨#[112, 101, 114, 99, 101, 110, 116]⟩]) ∧ ∃ p : Regrown, w'' = Go.Sort.grow (redrawn w p.d) p.os := fun d os => Calls.regrown_of (config_names _)
set_option maxHeartbeats 8000000 in
theorem config_Rule (k b p n s : Int) (w : World) (h : rlI (k, b, p, n, s)) (hP : PowT w) :
    Calls Tryd.prog 42 #[ruleV k b p n s] w fun e w' => e = .returned (.string (strOf (ruleL k b p n s))) ∧ Below w.heap.size w w' := by
  unfold ruleV
  have HP := hid' hP
  obtain ⟨hk, hb, hp, hn, hs⟩ := h
  simp only at hk hb hp hn hs
  have HI := hid' (And.intro hb (And.intro hp (And.intro hn hs)))
  have hkI := hk
  unfold I64 at hkI
  clear hb hp hn hs hP hk
  have HK := hid' (Blk.new_ w 54 #[.int .i64 k, .int .i64 b, .int .i64 p, .int .i64 n, .int .i64 s])
  have HL0 := hid' (bel_alloc (bel_refl w) (.cells #[.int .i64 k, .int .i64 b, .int .i64 p, .int .i64 n, .int .i64 s] 54))
  have HB0 := hid' (bel_refl w)
  by_cases k0 : k < 0
  · have hr : ruleL k b p n s = [] := by unfold ruleL; rw [if_neg (by omega), if_neg (by omega), if_neg (by omega)]
    rw [hr]
    clear hr
    go_enter Tryd.func42, Tryd.ntmps42
    go_wp2
    generalize hw0 : w.alloc (.cells _ 54) = w0 at *
    have c0 := HK.out.cell 0
    simp only [List.getElem?_toArray, List.getElem?_cons_zero] at c0
    have q0 := cell_regrown c0
    refine wp_region_quiet_below (by kernel_rfl) (by kernel_rfl) ?_
    repeat (quiet_step (exact namesQ _ _ _))
    refine wpQuiet_nil ?_
    intro _ hw'
    obtain ⟨⟨dq, osq⟩, hw''⟩ := hw'
    subst hw''
    have hBq := below_regrown w0 dq osq
    generalize Go.Sort.grow (redrawn w0 dq) osq = wq at *
    have HKq := hid' (HK.out.below hBq)
    have HLq := hid' (bel_then HL0.out hBq)
    clear c0 q0 hBq hw0
    go_wp2
    go_ret
    exact ⟨rfl, HLq.out⟩
  · have hk0 : 0 ≤ k := by omega
    by_cases k3 : 3 ≤ k
    · have hr : ruleL k b p n s = [] := by unfold ruleL; rw [if_neg (by omega), if_neg (by omega), if_neg (by omega)]
      rw [hr]
      clear hr
      go_enter Tryd.func42, Tryd.ntmps42
      go_wp2
      generalize hw0 : w.alloc (.cells _ 54) = w0 at *
      have c0 := HK.out.cell 0
      simp only [List.getElem?_toArray, List.getElem?_cons_zero] at c0
      have q0 := cell_regrown c0
      refine wp_region_quiet_below (by kernel_rfl) (by kernel_rfl) ?_
      repeat (quiet_step (exact namesQ _ _ _))
      refine wpQuiet_nil ?_
      intro _ hw'
      obtain ⟨⟨dq, osq⟩, hw''⟩ := hw'
      subst hw''
      have hBq := below_regrown w0 dq osq
      generalize Go.Sort.grow (redrawn w0 dq) osq = wq at *
      have HKq := hid' (HK.out.below hBq)
      have HLq := hid' (bel_then HL0.out hBq)
      clear c0 q0 hBq hw0
      go_wp2
      go_ret
      exact ⟨rfl, HLq.out⟩
    · have hk3 : k < 3 := by omega
      by_cases k1 : k = 1
      · subst k1
        have hr : ruleL 1 b p n s = lnL wMarked [s] := by unfold ruleL; rw [if_neg (by decide), if_pos rfl]
        rw [hr]
        clear hr
        go_enter Tryd.func42, Tryd.ntmps42
        go_wp2
        generalize hw0 : w.alloc (.cells _ 54) = w0 at *
        have c0 := HK.out.cell 0
        simp only [List.getElem?_toArray, List.getElem?_cons_zero] at c0
        have q0 := cell_regrown c0
        refine wp_region_quiet_below (by kernel_rfl) (by kernel_rfl) ?_
        repeat (quiet_step (exact namesQ _ _ _))
        refine wpQuiet_nil ?_
        intro _ hw'
        obtain ⟨⟨dq, osq⟩, hw''⟩ := hw'
        subst hw''
        have hBq := below_regrown w0 dq osq
        generalize Go.Sort.grow (redrawn w0 dq) osq = wq at *
        have HKq := hid' (HK.out.below hBq)
        have HLq := hid' (bel_then HL0.out hBq)
        clear c0 q0 hBq hw0
        go_wp2
        have hix : ∀ W, Sem.run Tryd.prog (Instr.index 98 (.agg #[.string ⟨#[98, 111, 117, 110, 100, 101, 100]⟩, .string ⟨#[109, 97, 114, 107, 101, 100]⟩, .string ⟨#[112, 101, 114, 99, 101, 110, 116]⟩]) (.int .i64 1)) W = .ok (.string ⟨#[109, 97, 114, 107, 101, 100]⟩) W := fun W => rfl
        have c0 : wq.cell? ⟨w.heap.size, 0, none⟩ = some (.int .i64 1) := by simpa using HKq.out.cell 0
        have q0 := cell_regrown c0
        refine wp_region_quiet_below (by kernel_rfl) (by kernel_rfl) ?_
        repeat (quiet_step (exact namesQ _ _ _))
        refine wpQuiet_nil ?_
        intro _ hw'
        obtain ⟨⟨dq, osq⟩, hw''⟩ := hw'
        subst hw''
        have hBp := below_regrown wq dq osq
        generalize Go.Sort.grow (redrawn wq dq) osq = wp at *
        have HKp := hid' (HKq.out.below hBp)
        have HLp := hid' (bel_then HLq.out hBp)
        clear q0 hBp c0
        have c0 : wp.cell? ⟨w.heap.size, 0, none⟩ = some (.int .i64 1) := by simpa using HKp.out.cell 0
        have c4 : wp.cell? ⟨w.heap.size, 4, none⟩ = some (.int .i64 s) := by simpa using HKp.out.cell 4
        have hba := bel_alloc (bel_refl wp) (.cells #[.int .i64 s] 3)
        have HX := hid' (config_line ⟨#[109, 97, 114, 107, 101, 100]⟩ (some ⟨wp.heap.size, 0, none⟩) 1 [s] _ ((Blk.new_ wp 3 #[.int .i64 s]).rd rfl) (by intro x hx; rw [List.mem_singleton] at hx; subst hx; exact HI.out.2.2.2) (by simp) (by decide) (HP.out.below (bel_then HLp.out hba)))
        have HLa := hid' (bel_then HLp.out hba)
        rw [show bL ⟨#[109, 97, 114, 107, 101, 100]⟩ = wMarked from rfl] at HX
        clear hba
        go_wp2_with fail
        refine HX.out.mono ?_
        rintro e w3 ⟨rfl, hB3⟩
        go_wp2
        go_ret
        exact ⟨rfl, bel_then HLa.out hB3⟩
      · by_cases k2 : k = 2
        · subst k2
          have hr : ruleL 2 b p n s = lnL wPercent [p, n] := by unfold ruleL; rw [if_neg (by decide), if_neg (by decide), if_pos rfl]
          rw [hr]
          clear hr
          go_enter Tryd.func42, Tryd.ntmps42
          go_wp2
          generalize hw0 : w.alloc (.cells _ 54) = w0 at *
          have c0 := HK.out.cell 0
          simp only [List.getElem?_toArray, List.getElem?_cons_zero] at c0
          have q0 := cell_regrown c0
          refine wp_region_quiet_below (by kernel_rfl) (by kernel_rfl) ?_
          repeat (quiet_step (exact namesQ _ _ _))
          refine wpQuiet_nil ?_
          intro _ hw'
          obtain ⟨⟨dq, osq⟩, hw''⟩ := hw'
          subst hw''
          have hBq := below_regrown w0 dq osq
          generalize Go.Sort.grow (redrawn w0 dq) osq = wq at *
          have HKq := hid' (HK.out.below hBq)
          have HLq := hid' (bel_then HL0.out hBq)
          clear c0 q0 hBq hw0
          go_wp2
          have hix : ∀ W, Sem.run Tryd.prog (Instr.index 98 (.agg #[.string ⟨#[98, 111, 117, 110, 100, 101, 100]⟩, .string ⟨#[109, 97, 114, 107, 101, 100]⟩, .string ⟨#[112, 101, 114, 99, 101, 110, 116]⟩]) (.int .i64 2)) W = .ok (.string ⟨#[112, 101, 114, 99, 101, 110, 116]⟩) W := fun W => rfl
          have c0 : wq.cell? ⟨w.heap.size, 0, none⟩ = some (.int .i64 2) := by simpa using HKq.out.cell 0
          have q0 := cell_regrown c0
          refine wp_region_quiet_below (by kernel_rfl) (by kernel_rfl) ?_
          repeat (quiet_step (exact namesQ _ _ _))
          refine wpQuiet_nil ?_
          intro _ hw'
          obtain ⟨⟨dq, osq⟩, hw''⟩ := hw'
          subst hw''
          have hBp := below_regrown wq dq osq
          generalize Go.Sort.grow (redrawn wq dq) osq = wp at *
          have HKp := hid' (HKq.out.below hBp)
          have HLp := hid' (bel_then HLq.out hBp)
          clear q0 hBp c0
          have c0 : wp.cell? ⟨w.heap.size, 0, none⟩ = some (.int .i64 2) := by simpa using HKp.out.cell 0
          have c2 : wp.cell? ⟨w.heap.size, 2, none⟩ = some (.int .i64 p) := by simpa using HKp.out.cell 2
          have c3 : wp.cell? ⟨w.heap.size, 3, none⟩ = some (.int .i64 n) := by simpa using HKp.out.cell 3
          have hba := bel_alloc (bel_refl wp) (.cells #[.int .i64 p, .int .i64 n] 3)
          have HX := hid' (config_line ⟨#[112, 101, 114, 99, 101, 110, 116]⟩ (some ⟨wp.heap.size, 0, none⟩) 2 [p, n] _ ((Blk.new_ wp 3 #[.int .i64 p, .int .i64 n]).rd rfl) (by intro x hx; simp at hx; rcases hx with rfl | rfl; exact HI.out.2.1; exact HI.out.2.2.1) (by simp) (by decide) (HP.out.below (bel_then HLp.out hba)))
          have HLa := hid' (bel_then HLp.out hba)
          rw [show bL ⟨#[112, 101, 114, 99, 101, 110, 116]⟩ = wPercent from rfl] at HX
          clear hba
          go_wp2_with fail
          refine HX.out.mono ?_
          rintro e w3 ⟨rfl, hB3⟩
          go_wp2
          go_ret
          exact ⟨rfl, bel_then HLa.out hB3⟩
        · obtain rfl : k = 0 := by omega
          have hr : ruleL 0 b p n s = lnL wBounded [b] := by unfold ruleL; rw [if_pos rfl]
          rw [hr]
          clear hr
          go_enter Tryd.func42, Tryd.ntmps42
          go_wp2
          generalize hw0 : w.alloc (.cells _ 54) = w0 at *
          have c0 := HK.out.cell 0
          simp only [List.getElem?_toArray, List.getElem?_cons_zero] at c0
          have q0 := cell_regrown c0
          refine wp_region_quiet_below (by kernel_rfl) (by kernel_rfl) ?_
          repeat (quiet_step (exact namesQ _ _ _))
          refine wpQuiet_nil ?_
          intro _ hw'
          obtain ⟨⟨dq, osq⟩, hw''⟩ := hw'
          subst hw''
          have hBq := below_regrown w0 dq osq
          generalize Go.Sort.grow (redrawn w0 dq) osq = wq at *
          have HKq := hid' (HK.out.below hBq)
          have HLq := hid' (bel_then HL0.out hBq)
          clear c0 q0 hBq hw0
          go_wp2
          have hix : ∀ W, Sem.run Tryd.prog (Instr.index 98 (.agg #[.string ⟨#[98, 111, 117, 110, 100, 101, 100]⟩, .string ⟨#[109, 97, 114, 107, 101, 100]⟩, .string ⟨#[112, 101, 114, 99, 101, 110, 116]⟩]) (.int .i64 0)) W = .ok (.string ⟨#[98, 111, 117, 110, 100, 101, 100]⟩) W := fun W => rfl
          have c0 : wq.cell? ⟨w.heap.size, 0, none⟩ = some (.int .i64 0) := by simpa using HKq.out.cell 0
          have q0 := cell_regrown c0
          refine wp_region_quiet_below (by kernel_rfl) (by kernel_rfl) ?_
          repeat (quiet_step (exact namesQ _ _ _))
          refine wpQuiet_nil ?_
          intro _ hw'
          obtain ⟨⟨dq, osq⟩, hw''⟩ := hw'
          subst hw''
          have hBp := below_regrown wq dq osq
          generalize Go.Sort.grow (redrawn wq dq) osq = wp at *
          have HKp := hid' (HKq.out.below hBp)
          have HLp := hid' (bel_then HLq.out hBp)
          clear q0 hBp c0
          have c0 : wp.cell? ⟨w.heap.size, 0, none⟩ = some (.int .i64 0) := by simpa using HKp.out.cell 0
          have c1 : wp.cell? ⟨w.heap.size, 1, none⟩ = some (.int .i64 b) := by simpa using HKp.out.cell 1
          have hba := bel_alloc (bel_refl wp) (.cells #[.int .i64 b] 3)
          have HX := hid' (config_line ⟨#[98, 111, 117, 110, 100, 101, 100]⟩ (some ⟨wp.heap.size, 0, none⟩) 1 [b] _ ((Blk.new_ wp 3 #[.int .i64 b]).rd rfl) (by intro x hx; rw [List.mem_singleton] at hx; subst hx; exact HI.out.1) (by simp) (by decide) (HP.out.below (bel_then HLp.out hba)))
          have HLa := hid' (bel_then HLp.out hba)
          rw [show bL ⟨#[98, 111, 117, 110, 100, 101, 100]⟩ = wBounded from rfl] at HX
          clear hba
          go_wp2_with fail
          refine HX.out.mono ?_
          rintro e w3 ⟨rfl, hB3⟩
          go_wp2
          go_ret
          exact ⟨rfl, bel_then HLa.out hB3⟩
theorem numQ (n : Int) (w : World) (h : I64 n) : ∀ d os, Calls Tryd.prog 40 #[.int .i64 n] (Go.Sort.grow (redrawn w d) os) fun e w'' => e = .returned (.string (numT n)) ∧ ∃ p : Regrown, w'' = Go.Sort.grow (redrawn w p.d) p.os := fun d os => Calls.regrown_of (ref19_Num n _ h)
theorem one_line (word : List UInt8) (n : Int) : strOf (word ++ [32]) ++ numT n ++ strOf [10] = strOf (lnL word [n]) := by
  unfold numT; rw [strN_app, strN_app]; unfold lnL wordsL; simp
theorem two_line (word : List UInt8) (n m : Int) : strOf (word ++ [32]) ++ numT n ++ strOf [32] ++ numT m ++ strOf [10] = strOf (lnL word [n, m]) := by
  unfold numT; rw [strN_app, strN_app, strN_app, strN_app]; unfold lnL wordsL; simp
set_option maxHeartbeats 8000000 in
theorem ref19_Rule (k b p n s : Int) (w : World) (h : rlI (k, b, p, n, s)) :
    Calls Tryd.prog 43 #[ruleV k b p n s] w fun e w' => e = .returned (.string (strOf (ruleL k b p n s))) ∧ Below w.heap.size w w' := by
  unfold ruleV
  obtain ⟨hk, hb, hp, hn, hs⟩ := h
  simp only at hk hb hp hn hs
  have HK := hid' (Blk.new_ w 54 #[.int .i64 k, .int .i64 b, .int .i64 p, .int .i64 n, .int .i64 s])
  have HL0 := hid' (bel_alloc (bel_refl w) (.cells #[.int .i64 k, .int .i64 b, .int .i64 p, .int .i64 n, .int .i64 s] 54))
  by_cases k0 : k = 0
  · subst k0
    have hr : strOf (ruleL 0 b p n s) = (⟨#[98, 111, 117, 110, 100, 101, 100, 32]⟩ : ByteArray) ++ numT b ++ ⟨#[10]⟩ := (one_line wBounded b).symm
    rw [hr]
    have HN := hid' (fun W => ref19_Num b W hb)
    have hz := numT_size hb
    have h1 : 8 + (numT b).size ≤ 9223372036854775807 := by omega
    have h2 : 8 + (numT b).size + 1 ≤ 9223372036854775807 := by omega
    clear hr hb hp hn hs hk
    generalize numT b = y at *
    go_enter Tryd.func43, Tryd.ntmps43
    go_wp2_with fail
    refine (HN.out _).mono ?_
    rintro e w2 ⟨rfl, hB2⟩
    go_wp2
    go_ret
    refine ⟨?_, bel_then HL0.out hB2⟩
    first | rfl | go_simp
  · by_cases k1 : k = 1
    · subst k1
      have hr : strOf (ruleL 1 b p n s) = (⟨#[109, 97, 114, 107, 101, 100, 32]⟩ : ByteArray) ++ numT s ++ ⟨#[10]⟩ := (one_line wMarked s).symm
      rw [hr]
      have HN := hid' (fun W => ref19_Num s W hs)
      have hz := numT_size hs
      have h1 : 7 + (numT s).size ≤ 9223372036854775807 := by omega
      have h2 : 7 + (numT s).size + 1 ≤ 9223372036854775807 := by omega
      clear hr hb hp hn hs hk
      generalize numT s = y at *
      go_enter Tryd.func43, Tryd.ntmps43
      go_wp2_with fail
      refine (HN.out _).mono ?_
      rintro e w2 ⟨rfl, hB2⟩
      go_wp2
      go_ret
      refine ⟨?_, bel_then HL0.out hB2⟩
      first | rfl | go_simp
    · by_cases k2 : k = 2
      · subst k2
        have hr : strOf (ruleL 2 b p n s) = (⟨#[112, 101, 114, 99, 101, 110, 116, 32]⟩ : ByteArray) ++ numT p ++ ⟨#[32]⟩ ++ numT n ++ ⟨#[10]⟩ := (two_line wPercent p n).symm
        rw [hr]
        have HN := hid' (fun W => numQ p W hp)
        have HM := hid' (fun W => numQ n W hn)
        have hz := numT_size hp
        have hz2 := numT_size hn
        have h1 : ¬ 9223372036854775807 < 8 + (numT p).size := by omega
        have h2 : ¬ 9223372036854775807 < 8 + (numT p).size + 1 := by omega
        have h3 : ¬ 9223372036854775807 < 8 + (numT p).size + 1 + (numT n).size := by omega
        have h4 : ¬ 9223372036854775807 < 8 + (numT p).size + 1 + (numT n).size + 1 := by omega
        clear hr hb hp hn hs hk
        generalize numT p = y at *
        generalize numT n = z at *
        go_enter Tryd.func43, Tryd.ntmps43
        go_wp2
        generalize hw0 : w.alloc (.cells #[.int .i64 2, .int .i64 b, .int .i64 p, .int .i64 n, .int .i64 s] 54) = w0 at *
        have c2 : w0.cell? ⟨w.heap.size, 2, none⟩ = some (.int .i64 p) := by simpa using HK.out.cell 2
        have c3 : w0.cell? ⟨w.heap.size, 3, none⟩ = some (.int .i64 n) := by simpa using HK.out.cell 3
        have q2 := cell_regrown c2
        have q3 := cell_regrown c3
        refine wp_region_quiet_below (by kernel_rfl) (by kernel_rfl) ?_
        repeat (quiet_step (first | with_reducible exact HN.out _ _ _ | with_reducible exact HM.out _ _ _))
        refine wpQuiet_nil ?_
        intro _ hw'
        obtain ⟨⟨dq, osq⟩, hw''⟩ := hw'
        subst hw''
        have hBq := below_regrown w0 dq osq
        generalize Go.Sort.grow (redrawn w0 dq) osq = wq at *
        go_wp2
        go_ret
        refine ⟨?_, bel_then HL0.out hBq⟩
        first | rfl | go_simp
      · have hr : ruleL k b p n s = [] := by unfold ruleL; rw [if_neg k0, if_neg k1, if_neg k2]
        rw [hr]
        clear hr
        go_enter Tryd.func43, Tryd.ntmps43
        go_wp2
        go_ret
        exact ⟨rfl, HL0.out⟩
end Go.Proofs.YthdblloiapadkaaDoor
