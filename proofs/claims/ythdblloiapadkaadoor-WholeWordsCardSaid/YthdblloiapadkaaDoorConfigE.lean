
/- Configurations in words, both ways (config.Print, tidewaiterref19.Print), and sameness (Same), walked. No condition but the tables and variables of Go's own library. -/
import Derived.Test.YthdblloiapadkaaDoorConfigPureB
import Derived.Test.YthdblloiapadkaaDoorUnquoteW
namespace Go.Proofs.YthdblloiapadkaaDoor
set_option maxRecDepth 100000
set_option linter.unusedSimpArgs false
open Go.RowKit
set_option linter.unusedVariables false
set_option linter.unusedSimpArgs false

def cfgL (l : List Rl) (t d : Int) : List UInt8 := lnL wSource [t, d] ++ l.flatMap rlL
theorem cfgL_snoc (l : List Rl) (r : Rl) (t d : Int) : cfgL (l ++ [r]) t d = cfgL l t d ++ rlL r := by unfold cfgL; simp
theorem rlL_len {r : Rl} (h : rlI r) : (rlL r).length ≤ 60 := by
  obtain ⟨k, b, p, n, s⟩ := r
  obtain ⟨hk, hb, hp, hn, hs⟩ := h
  simp only at hk hb hp hn hs
  have h1 := itoa_len hb
  have h2 := itoa_len hp
  have h3 := itoa_len hn
  have h4 := itoa_len hs
  unfold rlL ruleL
  simp only
  split
  · show (lnL wBounded [b]).length ≤ 60
    unfold lnL wordsL; simp; show 7 + _ ≤ 60; omega
  · split
    · unfold lnL wordsL; simp; show 6 + _ ≤ 60; omega
    · split
      · unfold lnL wordsL; simp; show 7 + _ ≤ 60; omega
      · simp
theorem cfgL_len {l : List Rl} {t d : Int} (h : ∀ r ∈ l, rlI r) (ht : I64 t) (hd : I64 d) : (cfgL l t d).length ≤ 60 + 60 * l.length := by
  have h1 := itoa_len ht
  have h2 := itoa_len hd
  unfold cfgL
  have h3 : (lnL wSource [t, d]).length ≤ 60 := by unfold lnL wordsL; simp; show 6 + _ ≤ 60; omega
  have h4 : (l.flatMap rlL).length ≤ 60 * l.length := by
    induction l with
    | nil => simp
    | cons r l ih =>
      have := rlL_len (h r (List.mem_cons_self ..))
      have := ih (fun x hx => h x (List.mem_cons_of_mem _ hx))
      simp only [List.flatMap_cons, List.length_append, List.length_cons]; omega
  rw [List.length_append]; omega
theorem cfgL_take {l : List Rl} {k : Nat} {r : Rl} (h : l[k]? = some r) (t d : Int) : cfgL (l.take (k + 1)) t d = cfgL (l.take k) t d ++ rlL r := by
  rw [List.take_add_one, h]; exact cfgL_snoc _ r t d
set_option maxHeartbeats 8000000 in
theorem ref19_Print (A : Option Addr) (cp : Nat) (l : List Rl) (t d : Int) (w : World) (hr : RdS w A 5 fRl l) (hl : l.length ≤ 1000) (hI : ∀ r ∈ l, rlI r) (ht : I64 t) (hd : I64 d) :
    Calls Tryd.prog 38 #[.agg #[.slice A l.length cp, .int .i64 t, .int .i64 d]] w fun e w' => e = .returned (.string (strOf (cfgL l t d))) ∧ Below w.heap.size w w' := by
  have HK := hid' (Blk.new_ w 45 #[.slice A l.length cp, .int .i64 t, .int .i64 d])
  have HL0 := hid' (bel_alloc (bel_refl w) (.cells #[.slice A l.length cp, .int .i64 t, .int .i64 d] 45))
  have HR := hid' hr
  have HI := hid' hI
  have HZ := hid' (fun k => cfgL_len (l := l.take k) (fun r hr => hI r (List.mem_of_mem_take hr)) ht hd)
  have HN := hid' (fun W => numQ t W ht)
  have HM := hid' (fun W => numQ d W hd)
  have hz := numT_size ht
  have hz2 := numT_size hd
  have h1 : ¬ 9223372036854775807 < 7 + (numT t).size := by omega
  have h2 : ¬ 9223372036854775807 < 7 + (numT t).size + 1 := by omega
  have h3 : ¬ 9223372036854775807 < 7 + (numT t).size + 1 + (numT d).size := by omega
  have h4 : ¬ 9223372036854775807 < 7 + (numT t).size + 1 + (numT d).size + 1 := by omega
  have hfirst : (⟨#[115, 111, 117, 114, 99, 101, 32]⟩ : ByteArray) ++ numT t ++ ⟨#[32]⟩ ++ numT d ++ ⟨#[10]⟩ = strOf (cfgL (l.take 0) t d) := by
    rw [List.take_zero]
    unfold cfgL
    rw [List.flatMap_nil, List.append_nil]
    exact two_line wSource t d
  have HF := hid' hfirst
  clear hr hI hfirst ht hd
  generalize numT t = y at *
  generalize numT d = z at *
  go_enter Tryd.func38, Tryd.ntmps38
  go_wp2
  generalize hw0 : w.alloc (.cells #[.slice A l.length cp, .int .i64 t, .int .i64 d] 45) = w0 at *
  have c1 : w0.cell? ⟨w.heap.size, 1, none⟩ = some (.int .i64 t) := by simpa using HK.out.cell 1
  have c2 : w0.cell? ⟨w.heap.size, 2, none⟩ = some (.int .i64 d) := by simpa using HK.out.cell 2
  have q1 := cell_regrown c1
  have q2 := cell_regrown c2
  refine wp_region_quiet_below (by kernel_rfl) (by kernel_rfl) ?_
  repeat (quiet_step (first | with_reducible exact HN.out _ _ _ | with_reducible exact HM.out _ _ _))
  refine wpQuiet_nil ?_
  intro _ hw'
  obtain ⟨⟨dq, osq⟩, hw''⟩ := hw'
  subst hw''
  have hBq := below_regrown w0 dq osq
  generalize Go.Sort.grow (redrawn w0 dq) osq = wq at *
  have HKq := hid' (HK.out.below hBq)
  have HLq := hid' (bel_then HL0.out hBq)
  clear c1 c2 q1 q2 hBq hw0
  go_wp2
  go_loopw [3, 4] (fun v3 v4 wr => ∃ k : Nat, k ≤ l.length ∧ v4 = .int .i64 k ∧ v3 = .string (strOf (cfgL (l.take k) t d)) ∧ Blk wr w.heap.size 45 #[.slice A l.length cp, .int .i64 t, .int .i64 d] ∧ Below w.heap.size w wr) (fun _ v4 _ => l.length - (intOf v4).toNat)
  case atStart => exact ⟨0, Nat.zero_le _, rfl, by rw [← HF.out] <;> rfl, HKq.out, HLq.out⟩
  case round =>
    obtain ⟨k, hk, rfl, rfl, hB, hL⟩ := hrel
    have HL := hid' hL
    have HKK := hid' hB
    have e0 : wr.cell? ⟨w.heap.size, 0, none⟩ = some (.slice A l.length cp) := by simpa using hB.cell 0
    have hlen := HZ.out k
    rw [List.length_take] at hlen
    obtain ⟨p, hp⟩ : ∃ p, p = strOf (cfgL (l.take k) t d) := ⟨_, rfl⟩
    have hps : p.size ≤ 70000 := by
      rw [hp]
      show (cfgL (l.take k) t d).length ≤ _
      omega
    rw [← hp]
    have HPP := hid' hp
    by_cases hlt : k < l.length
    · have hlti : (k : Int) < (l.length : Int) := by omega
      obtain ⟨ad, a, b, q, n, s, rfl, hx, c0, c1, c2, c3, c4⟩ := (HR.out.below hL).at5 hlt
      have hri := HI.out _ (List.mem_of_getElem? hx)
      have HC := hid' (fun W => ref19_Rule a b q n s W hri)
      have hrl := rlL_len hri
      have hnext : p ++ strOf (ruleL a b q n s) = strOf (cfgL (l.take (k + 1)) t d) := by
        rw [hp, cfgL_take hx, strN_app]; rfl
      have HNX := hid' hnext
      have hsz : p.size + (strOf (ruleL a b q n s)).size ≤ 9223372036854775807 := by
        show p.size + (ruleL a b q n s).length ≤ _
        have : (ruleL a b q n s).length ≤ 60 := hrl
        omega
      unfold ruleV at HC
      clear hx hB hL hp hnext hri hrl
      generalize strOf (ruleL a b q n s) = x at *
      go_wp2_with fail
      refine (HC.out _).mono ?_
      rintro e' w2 ⟨rfl, hB2⟩
      go_wp2
      go_roundw
      case rel => exact ⟨k + 1, by omega, by go_num, by rw [← HNX.out] <;> rfl, HKK.out.below hB2, bel_then HL.out hB2⟩
      case measure => (simp only [intOf]; omega)
    · obtain rfl : k = l.length := by omega
      rw [List.take_length] at HPP
      clear hL hB hp
      go_wp2
      go_ret
      exact ⟨by rw [HPP.out] <;> rfl, HL.out⟩
end Go.Proofs.YthdblloiapadkaaDoor
