
/- Events in words (the methods Line of package event; tidewaiterref22.Line), walked. No condition but the tables of Go's own library. -/
import Derived.Test.YtioaijjmialdoaaGreatDoorConfigE
import Derived.Test.YtioaijjmialdoaaGreatDoorEventPure
import Derived.Test.YtioaijjmialdoaaGreatDoorPackQ
import Derived.Test.YtioaijjmialdoaaGreatDoorRecRow
namespace Go.Proofs.YtioaijjmialdoaaGreatDoor
set_option maxRecDepth 100000
set_option linter.unusedSimpArgs false
open Go.RowKit
set_option linter.unusedVariables false
set_option linter.unusedSimpArgs false

def evV : Ev → Value
  | .elem p k t x late => .iface 42 (.agg #[.int .i64 p, .int .i64 k, .int .i64 t, .string x, .bool late])
  | .mark a => .iface 79 (.agg #[.int .i64 a])
  | .fault p e => .iface 25 (.agg #[.int .i64 p, .int .i64 e])
def evZ : Ev → Prop
  | .elem _ _ _ x _ => x.size ≤ 1000
  | _ => True
def numOr (n : Int) : Nat := (numT n).size
theorem lineE_mark (a : Int) : (⟨#[109, 97, 114, 107, 32]⟩ : ByteArray) ++ numT a = strOf (lineE (.mark a)) := by
  show strOf [109, 97, 114, 107, 32] ++ strOf (Lib.itoa a) = _
  rw [strN_app]
  show _ = strOf (wMark ++ wordsL [a])
  rw [words_cons, words_nil]; simp [wMark]
theorem lineE_fault (p e : Int) : (⟨#[102, 97, 117, 108, 116, 32]⟩ : ByteArray) ++ numT p ++ ⟨#[32]⟩ ++ numT e = strOf (lineE (.fault p e)) := by
  show strOf [102, 97, 117, 108, 116, 32] ++ strOf (Lib.itoa p) ++ strOf [32] ++ strOf (Lib.itoa e) = _
  rw [strN_app, strN_app, strN_app]
  show _ = strOf (wFault ++ wordsL [p, e])
  rw [words_cons, words_cons, words_nil]; simp [wFault]
def evWord (late : Bool) : ByteArray := if late = true then ⟨#[108, 97, 116, 101, 32]⟩ else ⟨#[101, 108, 101, 109, 101, 110, 116, 32]⟩
theorem lineE_elem (p k t : Int) (x : ByteArray) (late : Bool) : evWord late ++ numT p ++ ⟨#[32]⟩ ++ numT k ++ ⟨#[32]⟩ ++ numT t ++ ⟨#[32]⟩ ++ strOf (quoteP x) = strOf (lineE (.elem p k t x late)) := by
  have hw : evWord late = strOf ((if late = true then wLate else wElement) ++ [32]) := by cases late <;> rfl
  rw [hw]
  show strOf _ ++ strOf (Lib.itoa p) ++ strOf [32] ++ strOf (Lib.itoa k) ++ strOf [32] ++ strOf (Lib.itoa t) ++ strOf [32] ++ strOf (quoteP x) = _
  rw [strN_app, strN_app, strN_app, strN_app, strN_app, strN_app, strN_app]
  show _ = strOf ((if late = true then wLate else wElement) ++ wordsL [p, k, t] ++ 32 :: quoteP x)
  rw [words_cons, words_cons, words_cons, words_nil]; simp
theorem quoteP_size (x : ByteArray) : (strOf (quoteP x)).size ≤ 12 * x.size + 2 := by
  rw [← qPre_end]
  have := qPre_size x (signs x).length
  rw [ByteArray.size_append]
  show _ + 1 ≤ _
  omega
theorem itoaQ (n : Int) (w : World) (h : I64 n) (hP : PowT w) : ∀ d os, Calls Tryz.prog 40 #[.int .i64 n] (Go.Sort.grow (redrawn w d) os) fun e w'' => e = .returned (.string (numT n)) ∧ ∃ p : Regrown, w'' = Go.Sort.grow (redrawn w p.d) p.os := fun d os => Calls.regrown_of (itoaW n _ h (hP.below (below_regrown w d os)))
theorem quoteQ (x : ByteArray) (w : World) (h : x.size ≤ 200000) (hT : U8T w) (hZ : TzT w) : ∀ d os, Calls Tryz.prog 42 #[.string x] (Go.Sort.grow (redrawn w d) os) fun e w'' => e = .returned (.string (strOf (quoteP x))) ∧ ∃ p : Regrown, w'' = Go.Sort.grow (redrawn w p.d) p.os := fun d os => Calls.regrown_of (quote_Quote x _ h (hT.below (below_regrown w d os)) (hZ.below (below_regrown w d os)))
theorem mark_Line (a : Int) (w : World) (h : I64 a) (hP : PowT w) :
    Calls Tryz.prog 117 #[.agg #[.int .i64 a]] w fun e w' => e = .returned (.string (strOf (lineE (.mark a)))) ∧ Below w.heap.size w w' := by
  have HL0 := hid' (bel_alloc (bel_refl w) (.cells #[.int .i64 a] 79))
  have HN := hid' (fun W hP => itoaW a W h hP)
  have HP := hid' (hP.below HL0.out)
  have hz := numT_size h
  have h1 : 5 + (numT a).size ≤ 9223372036854775807 := by omega
  rw [← lineE_mark]
  clear hz hP h
  generalize numT a = y at *
  go_enter Tryz.func117, Tryz.ntmps117
  go_wp2_with fail
  refine (HN.out _ HP.out).mono ?_
  rintro e w2 ⟨rfl, hB2⟩
  have HL2 := hid' (bel_then HL0.out hB2)
  clear hB2
  go_wp2
  go_ret
  refine ⟨?_, HL2.out⟩
  first | rfl | go_simp
theorem fault_Line (p c : Int) (w : World) (h : I64 p ∧ I64 c) (hP : PowT w) :
    Calls Tryz.prog 114 #[.agg #[.int .i64 p, .int .i64 c]] w fun e w' => e = .returned (.string (strOf (lineE (.fault p c)))) ∧ Below w.heap.size w w' := by
  have HK := hid' (Blk.new_ w 25 #[.int .i64 p, .int .i64 c])
  have HL0 := hid' (bel_alloc (bel_refl w) (.cells #[.int .i64 p, .int .i64 c] 25))
  have HN := hid' (fun W hP => itoaQ p W h.1 hP)
  have HM := hid' (fun W hP => itoaQ c W h.2 hP)
  have HP := hid' (hP.below HL0.out)
  have hz := numT_size h.1
  have hz2 := numT_size h.2
  have h1 : ¬ 9223372036854775807 < 6 + (numT p).size := by omega
  have h2 : ¬ 9223372036854775807 < 6 + (numT p).size + 1 := by omega
  have h3 : ¬ 9223372036854775807 < 6 + (numT p).size + 1 + (numT c).size := by omega
  rw [← lineE_fault]
  clear hz hz2 hP h
  generalize numT p = y at *
  generalize numT c = z at *
  go_enter Tryz.func114, Tryz.ntmps114
  go_wp2
  generalize hw0 : w.alloc (.cells #[.int .i64 p, .int .i64 c] 25) = w0 at *
  have c0 : w0.cell? ⟨w.heap.size, 0, none⟩ = some (.int .i64 p) := by simpa using HK.out.cell 0
  have c1 : w0.cell? ⟨w.heap.size, 1, none⟩ = some (.int .i64 c) := by simpa using HK.out.cell 1
  have q0 := cell_regrown c0
  have q1 := cell_regrown c1
  skip
  refine wp_region_quiet_below (by kernel_rfl) (by kernel_rfl) ?_
  repeat (quiet_step (first | with_reducible exact HN.out _ HP.out _ _ | with_reducible exact HM.out _ HP.out _ _))
  refine wpQuiet_nil ?_
  intro _ hw'
  obtain ⟨⟨dq, osq⟩, hw''⟩ := hw'
  subst hw''
  have hBq := below_regrown w0 dq osq
  generalize Go.Sort.grow (redrawn w0 dq) osq = wq at *
  go_wp2
  go_ret
  refine ⟨?_, bel_then HL0.out hBq⟩
  first | rfl | go_simp
set_option maxHeartbeats 8000000 in
theorem elem_Line (p k t : Int) (x : ByteArray) (late : Bool) (w : World) (h : I64 p ∧ I64 k ∧ I64 t) (hx : x.size ≤ 1000) (hP : PowT w) (hT : U8T w) (hZ : TzT w) :
    Calls Tryz.prog 116 #[.agg #[.int .i64 p, .int .i64 k, .int .i64 t, .string x, .bool late]] w fun e w' => e = .returned (.string (strOf (lineE (.elem p k t x late)))) ∧ Below w.heap.size w w' := by
  have HK := hid' (Blk.new_ w 42 #[.int .i64 p, .int .i64 k, .int .i64 t, .string x, .bool late])
  have HL0 := hid' (bel_alloc (bel_refl w) (.cells #[.int .i64 p, .int .i64 k, .int .i64 t, .string x, .bool late] 42))
  have HN := hid' (fun W hP => itoaQ p W h.1 hP)
  have HM := hid' (fun W hP => itoaQ k W h.2.1 hP)
  have HO := hid' (fun W hP => itoaQ t W h.2.2 hP)
  have HQ := hid' (fun W hT hZ => quoteQ x W (by omega) hT hZ)
  have HP := hid' (hP.below HL0.out)
  have HT := hid' (hT.below HL0.out)
  have HZ := hid' (hZ.below HL0.out)
  have hz := numT_size h.1
  have hz2 := numT_size h.2.1
  have hz3 := numT_size h.2.2
  have hz4 := quoteP_size x
  rw [← lineE_elem]
  clear hP h hT hZ
  cases late with
  | true =>
    unfold evWord
    rw [if_pos rfl]
    have h1 : ¬ 9223372036854775807 < 5 + (numT p).size := by omega
    have h2 : ¬ 9223372036854775807 < 5 + (numT p).size + 1 := by omega
    have h3 : ¬ 9223372036854775807 < 5 + (numT p).size + 1 + (numT k).size := by omega
    have h4 : ¬ 9223372036854775807 < 5 + (numT p).size + 1 + (numT k).size + 1 := by omega
    have h5 : ¬ 9223372036854775807 < 5 + (numT p).size + 1 + (numT k).size + 1 + (numT t).size := by omega
    have h6 : ¬ 9223372036854775807 < 5 + (numT p).size + 1 + (numT k).size + 1 + (numT t).size + 1 := by omega
    have h7 : ¬ 9223372036854775807 < 5 + (numT p).size + 1 + (numT k).size + 1 + (numT t).size + 1 + (strOf (quoteP x)).size := by omega
    clear hz hz2 hz3 hz4
    generalize numT p = y1 at *
    generalize numT k = y2 at *
    generalize numT t = y3 at *
    generalize strOf (quoteP x) = y4 at *
    go_enter Tryz.func116, Tryz.ntmps116
    go_wp2
    generalize hw0 : w.alloc (.cells #[.int .i64 p, .int .i64 k, .int .i64 t, .string x, .bool true] 42) = w0 at *
    have c0 : w0.cell? ⟨w.heap.size, 0, none⟩ = some (.int .i64 p) := by simpa using HK.out.cell 0
    have c1 : w0.cell? ⟨w.heap.size, 1, none⟩ = some (.int .i64 k) := by simpa using HK.out.cell 1
    have c2 : w0.cell? ⟨w.heap.size, 2, none⟩ = some (.int .i64 t) := by simpa using HK.out.cell 2
    have c3 : w0.cell? ⟨w.heap.size, 3, none⟩ = some (.string x) := by simpa using HK.out.cell 3
    have q0 := cell_regrown c0
    have q1 := cell_regrown c1
    have q2 := cell_regrown c2
    have q3 := cell_regrown c3
    clear c0 c1 c2 c3
    skip
    refine wp_region_quiet_below (by kernel_rfl) (by kernel_rfl) ?_
    repeat (quiet_step (first | with_reducible exact HN.out _ HP.out _ _ | with_reducible exact HM.out _ HP.out _ _ | with_reducible exact HO.out _ HP.out _ _ | with_reducible exact HQ.out _ HT.out HZ.out _ _))
    refine wpQuiet_nil ?_
    intro _ hw'
    obtain ⟨⟨dq, osq⟩, hw''⟩ := hw'
    subst hw''
    have hBq := below_regrown w0 dq osq
    generalize Go.Sort.grow (redrawn w0 dq) osq = wq at *
    go_wp2
    go_ret
    refine ⟨?_, bel_then HL0.out hBq⟩
    first | rfl | go_simp
  | false =>
    unfold evWord
    rw [if_neg (by decide)]
    have h1 : ¬ 9223372036854775807 < 8 + (numT p).size := by omega
    have h2 : ¬ 9223372036854775807 < 8 + (numT p).size + 1 := by omega
    have h3 : ¬ 9223372036854775807 < 8 + (numT p).size + 1 + (numT k).size := by omega
    have h4 : ¬ 9223372036854775807 < 8 + (numT p).size + 1 + (numT k).size + 1 := by omega
    have h5 : ¬ 9223372036854775807 < 8 + (numT p).size + 1 + (numT k).size + 1 + (numT t).size := by omega
    have h6 : ¬ 9223372036854775807 < 8 + (numT p).size + 1 + (numT k).size + 1 + (numT t).size + 1 := by omega
    have h7 : ¬ 9223372036854775807 < 8 + (numT p).size + 1 + (numT k).size + 1 + (numT t).size + 1 + (strOf (quoteP x)).size := by omega
    clear hz hz2 hz3 hz4
    generalize numT p = y1 at *
    generalize numT k = y2 at *
    generalize numT t = y3 at *
    generalize strOf (quoteP x) = y4 at *
    go_enter Tryz.func116, Tryz.ntmps116
    go_wp2
    generalize hw0 : w.alloc (.cells #[.int .i64 p, .int .i64 k, .int .i64 t, .string x, .bool false] 42) = w0 at *
    have c0 : w0.cell? ⟨w.heap.size, 0, none⟩ = some (.int .i64 p) := by simpa using HK.out.cell 0
    have c1 : w0.cell? ⟨w.heap.size, 1, none⟩ = some (.int .i64 k) := by simpa using HK.out.cell 1
    have c2 : w0.cell? ⟨w.heap.size, 2, none⟩ = some (.int .i64 t) := by simpa using HK.out.cell 2
    have c3 : w0.cell? ⟨w.heap.size, 3, none⟩ = some (.string x) := by simpa using HK.out.cell 3
    have q0 := cell_regrown c0
    have q1 := cell_regrown c1
    have q2 := cell_regrown c2
    have q3 := cell_regrown c3
    clear c0 c1 c2 c3
    skip
    refine wp_region_quiet_below (by kernel_rfl) (by kernel_rfl) ?_
    repeat (quiet_step (first | with_reducible exact HN.out _ HP.out _ _ | with_reducible exact HM.out _ HP.out _ _ | with_reducible exact HO.out _ HP.out _ _ | with_reducible exact HQ.out _ HT.out HZ.out _ _))
    refine wpQuiet_nil ?_
    intro _ hw'
    obtain ⟨⟨dq, osq⟩, hw''⟩ := hw'
    subst hw''
    have hBq := below_regrown w0 dq osq
    generalize Go.Sort.grow (redrawn w0 dq) osq = wq at *
    go_wp2
    go_ret
    refine ⟨?_, bel_then HL0.out hBq⟩
    first | rfl | go_simp
/-! ### the document's line: plain data -/
abbrev PD := Int × Int × Rec × Bool × Int × Int
def pdV (k p : Int) (r : Rec) (l : Bool) (a e : Int) : Value := .agg #[.int .i64 k, .int .i64 p, .int .i64 r.1, .int .i64 r.2.1, .string r.2.2, .bool l, .int .i64 a, .int .i64 e]
/-- the event that plain data tells -/
def pdE (k p : Int) (r : Rec) (l : Bool) (a e : Int) : Ev := if k = 1 then .mark a else if k = 2 then .fault p e else .elem p r.1 r.2.1 r.2.2 l
end Go.Proofs.YtioaijjmialdoaaGreatDoor
