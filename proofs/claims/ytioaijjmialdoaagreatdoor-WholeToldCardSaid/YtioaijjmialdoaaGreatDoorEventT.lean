
/- Events as a text (event.Text); plain data and back (tidewaiterlaw22.Of, Plain, tidy), walked. No condition but the tables of Go's own library. -/
import Derived.Test.YtioaijjmialdoaaGreatDoorEventO
import Derived.Test.YtioaijjmialdoaaGreatDoorPackQ
namespace Go.Proofs.YtioaijjmialdoaaGreatDoor
set_option maxRecDepth 100000
set_option linter.unusedSimpArgs false
open Go.RowKit
set_option linter.unusedVariables false
set_option linter.unusedSimpArgs false

theorem me_e (v : Value) (w : World) : (method 268 42 v "Line").run Tryz.prog w = .ok (116, v) w := by kernel_rfl
theorem me_m (v : Value) (w : World) : (method 268 79 v "Line").run Tryz.prog w = .ok (117, v) w := by kernel_rfl
theorem me_f (v : Value) (w : World) : (method 268 25 v "Line").run Tryz.prog w = .ok (114, v) w := by kernel_rfl
def textE (l : List Ev) : List UInt8 := l.flatMap fun e => lineE e ++ [10]
theorem lineE_len {e : Ev} (h : evI e) (hz : evZ e) : (lineE e).length ≤ 13000 := by
  cases e with
  | elem p k t x b =>
    have h1 := itoa_len h.1
    have h2 := itoa_len h.2.1
    have h3 := itoa_len h.2.2
    have h4 : (quoteP x).length ≤ 12 * x.size + 2 := quoteP_size x
    have h5 : x.size ≤ 1000 := hz
    show ((if b = true then wLate else wElement) ++ wordsL [p, k, t] ++ 32 :: quoteP x).length ≤ _
    rw [words_cons, words_cons, words_cons, words_nil]
    have h6 : (if b = true then wLate else wElement).length ≤ 7 := by cases b <;> decide
    simp only [List.length_append, List.length_cons, List.length_nil]
    omega
  | mark a =>
    have h1 := itoa_len h
    show (wMark ++ wordsL [a]).length ≤ _
    rw [words_cons, words_nil]
    simp only [List.length_append, List.length_cons, List.length_nil]
    have : wMark.length = 4 := rfl
    omega
  | fault p c =>
    have h1 := itoa_len h.1
    have h2 := itoa_len h.2
    show (wFault ++ wordsL [p, c]).length ≤ _
    rw [words_cons, words_cons, words_nil]
    simp only [List.length_append, List.length_cons, List.length_nil]
    have : wFault.length = 5 := rfl
    omega
theorem textE_len {l : List Ev} (h : ∀ e ∈ l, evI e ∧ evZ e) (hl : l.length ≤ 1000) : (textE l).length ≤ 13001 * l.length := by
  induction l with
  | nil => simp [textE]
  | cons e l ih =>
    have h1 := lineE_len (h e (List.mem_cons_self ..)).1 (h e (List.mem_cons_self ..)).2
    have h2 := ih (fun x hx => h x (List.mem_cons_of_mem _ hx)) (by simp at hl; omega)
    show (lineE e ++ [10] ++ textE l).length ≤ _
    simp only [List.length_append, List.length_cons, List.length_nil]
    omega
set_option maxHeartbeats 8000000 in
theorem event_Text (A : Option Addr) (c : Nat) (l : List Ev) (w : World) (hr : Rd w A (l.map evV)) (hl : l.length ≤ 1000) (hI : ∀ e ∈ l, evI e ∧ evZ e) (hP : PowT w) (hT : U8T w) (hZ : TzT w) :
    Calls Tryz.prog 4 #[.slice A l.length c] w fun e w' => e = .returned (.string (strOf (textE l))) ∧ Below w.heap.size w w' := by
  have HR := hid' hr
  have HI := hid' hI
  have HP := hid' hP
  have HT := hid' hT
  have HZ := hid' hZ
  have HU0 := hid' (USt.new_ w)
  have HLN := hid' (fun k => textE_len (l := l.take k) (fun r hr => hI r (List.mem_of_mem_take hr)) (by rw [List.length_take]; omega))
  clear hr hI hP hT hZ
  go_enter Tryz.func4, Tryz.ntmps4
  go_wp2
  go_loopw [8] (fun v8 wr => ∃ k : Nat, k ≤ l.length ∧ v8 = .int .i64 k ∧ USt w wr (textE (l.take k))) (fun v8 _ => l.length - (intOf v8).toNat)
  case atStart => exact ⟨0, Nat.zero_le _, rfl, HU0.out⟩
  case round =>
    obtain ⟨k, hk, rfl, hU⟩ := hrel
    have HU := hid' hU
    have hlen := HLN.out k
    rw [List.length_take] at hlen
    by_cases hlt : k < l.length
    · have hLr := hU.2
      obtain ⟨ad, x, rfl, hx, hcell⟩ := (HR.out.below hLr).at_ hlt
      obtain ⟨hi, hz⟩ := HI.out x (List.mem_of_getElem? hx)
      have hP := HP.out.below hLr
      have hT := HT.out.below hLr
      have hZ := HZ.out.below hLr
      have HNX := hid' (show textE (l.take (k + 1)) = textE (l.take k) ++ _ from take_fm hx)
      have hll := lineE_len hi hz
      obtain ⟨L1, hL1⟩ : ∃ L1, L1 = lineE x := ⟨_, rfl⟩
      rw [← hL1] at HNX hll
      have hl4 : (textE (l.take k)).length ≤ 13001000 := by omega
      cases x with
      | elem p kd t x b =>
        unfold evV at hcell
        simp only at hcell
        have hC := elem_Line p kd t x b wr hi hz hP hT hZ
        rw [← hL1] at hC
        clear hi hz hP hT hZ hx hL1 hU hLr hlen
        have HC := hid' hC
        go_wp2_with fail
        rw [me_e]
        go_wp2_with fail
        refine HC.out.mono ?_
        rintro e' w4 ⟨rfl, hB4⟩
        have HU4 := hid' (HU.out.below hB4)
        have HW4 := hid' (USt.str HU4.out (strOf L1 ++ ⟨#[10]⟩) (by rw [ByteArray.size_append]; show _ + (L1.length + 1) ≤ _; omega))
        have hL1s : (strOf L1).size + 1 ≤ 9223372036854775807 := by show L1.length + 1 ≤ _; omega
        clear hB4
        go_wp2_with fail
        refine HW4.out.mono ?_
        rintro e' w5 ⟨⟨r5, rfl⟩, hU5⟩
        go_wp2
        go_roundw
        case rel => exact ⟨k + 1, by omega, by go_num, by
          rw [HNX.out]
          have : bL (strOf L1 ++ ⟨#[10]⟩) = L1 ++ [10] := by show bL (strOf L1 ++ strOf [10]) = _; rw [strN_app, bL_str]
          rw [← this]; exact hU5⟩
        case measure => (simp only [intOf]; omega)
      | mark a =>
        unfold evV at hcell
        simp only at hcell
        have hC := mark_Line a wr hi hP
        rw [← hL1] at hC
        clear hi hz hP hT hZ hx hL1 hU hLr hlen
        have HC := hid' hC
        go_wp2_with fail
        rw [me_m]
        go_wp2_with fail
        refine HC.out.mono ?_
        rintro e' w4 ⟨rfl, hB4⟩
        have HU4 := hid' (HU.out.below hB4)
        have HW4 := hid' (USt.str HU4.out (strOf L1 ++ ⟨#[10]⟩) (by rw [ByteArray.size_append]; show _ + (L1.length + 1) ≤ _; omega))
        have hL1s : (strOf L1).size + 1 ≤ 9223372036854775807 := by show L1.length + 1 ≤ _; omega
        clear hB4
        go_wp2_with fail
        refine HW4.out.mono ?_
        rintro e' w5 ⟨⟨r5, rfl⟩, hU5⟩
        go_wp2
        go_roundw
        case rel => exact ⟨k + 1, by omega, by go_num, by
          rw [HNX.out]
          have : bL (strOf L1 ++ ⟨#[10]⟩) = L1 ++ [10] := by show bL (strOf L1 ++ strOf [10]) = _; rw [strN_app, bL_str]
          rw [← this]; exact hU5⟩
        case measure => (simp only [intOf]; omega)
      | fault p c =>
        unfold evV at hcell
        simp only at hcell
        have hC := fault_Line p c wr hi hP
        rw [← hL1] at hC
        clear hi hz hP hT hZ hx hL1 hU hLr hlen
        have HC := hid' hC
        go_wp2_with fail
        rw [me_f]
        go_wp2_with fail
        refine HC.out.mono ?_
        rintro e' w4 ⟨rfl, hB4⟩
        have HU4 := hid' (HU.out.below hB4)
        have HW4 := hid' (USt.str HU4.out (strOf L1 ++ ⟨#[10]⟩) (by rw [ByteArray.size_append]; show _ + (L1.length + 1) ≤ _; omega))
        have hL1s : (strOf L1).size + 1 ≤ 9223372036854775807 := by show L1.length + 1 ≤ _; omega
        clear hB4
        go_wp2_with fail
        refine HW4.out.mono ?_
        rintro e' w5 ⟨⟨r5, rfl⟩, hU5⟩
        go_wp2
        go_roundw
        case rel => exact ⟨k + 1, by omega, by go_num, by
          rw [HNX.out]
          have : bL (strOf L1 ++ ⟨#[10]⟩) = L1 ++ [10] := by show bL (strOf L1 ++ strOf [10]) = _; rw [strN_app, bL_str]
          rw [← this]; exact hU5⟩
        case measure => (simp only [intOf]; omega)
    · obtain rfl : k = l.length := by omega
      rw [List.take_length] at HU
      clear hU hlen
      go_wp2_with fail
      have HSG := USt.string HU.out
      refine HSG.mono ?_
      rintro e' w4 ⟨rfl, hU4⟩
      go_wp2
      go_ret
      exact ⟨rfl, hU4.2⟩
/-! ### plain data -/
def pdOf : Ev → PD
  | .elem p k t x b => (0, p, (k, t, x), b, 0, 0)
  | .mark a => (1, 0, (0, 0, ⟨#[]⟩), false, a, 0)
  | .fault p e => (2, p, (0, 0, ⟨#[]⟩), false, 0, e)
theorem pdE_of (e : Ev) : pdE (pdOf e).1 (pdOf e).2.1 (pdOf e).2.2.1 (pdOf e).2.2.2.1 (pdOf e).2.2.2.2.1 (pdOf e).2.2.2.2.2 = e := by
  cases e <;> rfl
def fPd (x : PD) : List Value := [.int .i64 x.1, .int .i64 x.2.1, .int .i64 x.2.2.1.1, .int .i64 x.2.2.1.2.1, .string x.2.2.1.2.2, .bool x.2.2.2.1, .int .i64 x.2.2.2.2.1, .int .i64 x.2.2.2.2.2]
def tidyP (x : PD) : PD := if x.1 = 1 then (1, 0, (0, 0, ⟨#[]⟩), false, x.2.2.2.2.1, 0) else if x.1 = 2 then (2, x.2.1, (0, 0, ⟨#[]⟩), false, 0, x.2.2.2.2.2) else (0, x.2.1, x.2.2.1, x.2.2.2.1, 0, 0)
theorem pdOne (x : PD) : ∀ u ∈ fPd x, u.oneCell' = true := by
  intro u hu; unfold fPd at hu; simp at hu; rcases hu with h | h | h | h | h | h | h | h <;> rw [h] <;> rfl
end Go.Proofs.YtioaijjmialdoaaGreatDoor
