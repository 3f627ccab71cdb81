
/- The laws of choices, walked: there and back. No condition but the tables and variables of Go's own library. -/
import Derived.Test.YthdblloiapadkaaDoorLawChoice
namespace Go.Proofs.YthdblloiapadkaaDoor
set_option maxRecDepth 100000
set_option linter.unusedSimpArgs false
open Go.RowKit
set_option linter.unusedVariables false
set_option linter.unusedSimpArgs false

def RCh (w : World) (cs : List Value) (x : Bool × Int) : Prop := cs.length = 2 ∧ RBool w ((cs.drop 0).take 1) x.1 ∧ RInt .i64 w ((cs.drop 1).take 1) x.2
theorem RCh.cells {w : World} {cs : List Value} {x : Bool × Int} (h : RCh w cs x) : cs = [.bool x.1, .int .i64 x.2] ∧ I64 x.2 := by
  obtain ⟨hl, h1, ⟨h2, w2⟩⟩ := h
  match cs, hl with
  | [a, b], _ =>
    unfold RBool at h1
    simp at h1 h2
    subst h1 h2
    exact ⟨rfl, I64.of_wf w2⟩
def rowCh (w : World) (A : Option Addr) (l : List (Bool × Int)) : Prop := ∀ j x, l[j]? = some x → ∃ ad row, A = some ad ∧ RCh w row x ∧ row.length = 2 ∧ ∀ i u, row[i]? = some u → w.cell? ((ad.add (j * 2)).add i) = some u
theorem rowCh.rds {w : World} {A : Option Addr} {l : List (Bool × Int)} (h : rowCh w A l) : RdS w A 2 fCh l := fun j x hj => by
  obtain ⟨ad, row, e, ha, hl, hc⟩ := h j x hj
  obtain ⟨rfl, _⟩ := ha.cells
  exact ⟨ad, e, rfl, hc⟩
theorem rowCh.i64 {w : World} {A : Option Addr} {l : List (Bool × Int)} (h : rowCh w A l) : ∀ c ∈ l, I64 c.2 := fun r hr => by
  obtain ⟨j, hj⟩ := List.getElem?_of_mem hr
  obtain ⟨ad, row, e, ha, hl, hc⟩ := h j r hj
  exact ha.cells.2
theorem tkS_add {s : Int} {t : Bool} {n : Int} (h0 : 0 ≤ s) (h1 : s ≤ 9223372036854775807) (hn : I64 n) : tkS s (t, n) = if t = true then satAdd s (max n 0) else s := by
  unfold I64 at hn
  unfold tkS satAdd
  cases t
  · simp
  · simp only [true_and, if_true]
    split <;> split <;> (try split) <;> omega
set_option maxHeartbeats 8000000 in
theorem choiceBack (A : Option Addr) (c : Nat) (l : List (Bool × Int)) (w : World) (hr : rowCh w A l) (hl : l.length ≤ maxLen) (hP : PowT w) (hE : ErV w) (hM : MaxT w) :
    Calls Tryd.prog 8 #[.slice A l.length c] w fun e w' => e = .returned (.bool true) ∧ Below w.heap.size w w' := by
  have HS := hid' (speaks20 w hP hE hM)
  have HR := hid' hr.rds
  have hI := hr.i64
  have hlm : l.length ≤ 9223372036854775807 := by unfold maxLen at hl; omega
  by_cases hbig : 200 < l.length
  · have hb1 : (200 : Int) < (l.length : Int) := by omega
    clear hP hE hM
    go_enter Tryd.func8, Tryd.ntmps8
    go_wp2_with fail
    refine HS.out.mono ?_
    rintro e w1 ⟨rfl, hB1⟩
    go_wp2
    go_ret
    exact ⟨rfl, hB1⟩
  · have hb1 : (l.length : Int) ≤ 200 := by omega
    have HBD := hid' (tks_bd hI)
    have HI := hid' hI
    have HLN := hid' (fun (t : Bool) (n : Int) (hn : I64 n) (W : World) (hB : Below w.heap.size w W) => choice_Line t n W hn (hP.below hB))
    have HRD := hid' (fun (t : Bool) (n : Int) (hn : I64 n) (W : World) (hB : Below w.heap.size w W) => (by
      have h := choice_Read (lineS t n) W (by have := lineS_size t hn; omega) (hP.below hB) (hE.below hB) (hM.below hB)
      rw [show readP (bL (lineS t n)) = some (t, n) from readP_line t hn] at h
      exact h : Calls Tryd.prog 25 #[.string (lineS t n)] W fun e w' => e = .returned (.tuple #[.agg #[.bool t, .int .i64 n], .bool true]) ∧ Below W.heap.size W w'))
    have HTK := hid' (fun (W : World) (hB : Below w.heap.size w W) => choice_Ticks A c l W (HR.out.below hB) (by omega) hI)
    clear hP hE hM hI hbig
    go_enter Tryd.func8, Tryd.ntmps8
    go_wp2_with fail
    refine HS.out.mono ?_
    rintro e w1 ⟨rfl, hB1⟩
    have HL1 := hid' hB1
    clear hB1
    go_wp2
    go_loopw [3, 5, 6, 7, 8, 16] (fun v3 v5 v6 v7 v8 v16 wr => ∃ k : Nat, k ≤ l.length ∧ v16 = .int .i64 k ∧ v3 = .int .i64 (tks (l.take k)) ∧ Below w.heap.size w wr) (fun _ _ _ _ _ v16 _ => l.length - (intOf v16).toNat)
    case atStart => exact ⟨0, Nat.zero_le _, rfl, rfl, HL1.out⟩
    case round =>
      obtain ⟨k, hk, rfl, rfl, hL⟩ := hrel
      have HL := hid' hL
      by_cases hlt : k < l.length
      · have hlti : (k : Int) < (l.length : Int) := by omega
        obtain ⟨ad, t, n, rfl, hx, hc0, hc1⟩ := RdS.at2 (HR.out.below hL) hlt
        have hn := HI.out _ (List.mem_of_getElem? hx)
        have hbd := HBD.out k
        have hs := tks_snoc hx
        rw [tkS_add hbd.1 hbd.2 hn] at hs
        have HS := hid' hs
        have HK := hid' (Blk.new_ wr 32 #[.bool t, .int .i64 n])
        have HLa := hid' (bel_alloc HL.out (.cells #[.bool t, .int .i64 n] 32))
        simp only at hn
        have HN := hid' hn
        have hnb := hn
        unfold I64 at hnb
        clear hL hx hs
        generalize tks (l.take k) = s at *
        go_wp2_with fail
        refine (HLN.out t n HN.out _ HLa.out).mono ?_
        rintro e w2 ⟨rfl, hB2⟩
        have HK2 := hid' (HK.out.below hB2)
        have HL2 := hid' (bel_then HLa.out hB2)
        clear hB2
        go_wp2_with fail
        refine (HRD.out t n HN.out _ HL2.out).mono ?_
        rintro e w3 ⟨rfl, hB3⟩
        have HK3 := hid' (HK2.out.below hB3)
        have HL3 := hid' (bel_then HL2.out hB3)
        have hblt : wr.heap.size < w3.heap.size := HK3.out.lt
        have HJ4 := hid' (Blk.new_ w3 32 #[.bool t, .int .i64 n])
        have hba := bel_alloc (bel_refl w3) (.cells #[.bool t, .int .i64 n] 32)
        have HK4 := hid' (HK3.out.below hba)
        have HL4 := hid' (bel_then HL3.out hba)
        generalize hb5 : wr.heap.size = b5 at *
        have HLI := hid' (fun W => law20_line t n W HN.out)
        have c0 : w3.cell? ⟨b5, 0, none⟩ = some (.bool t) := by simpa using HK3.out.cell 0
        have c1 : w3.cell? ⟨b5, 1, none⟩ = some (.int .i64 n) := by simpa using HK3.out.cell 1
        have hne0 : b5 ≠ w3.heap.size := by omega
        have hwb := HL3.out.size
        clear hB3 hba
        go_wp2_with fail
        generalize hw4 : w3.alloc (.cells #[.bool t, .int .i64 n] 32) = w4 at *
        generalize w3.heap.size = b7 at *
        clear c0 c1 hw4
        refine (HLI.out w4).mono ?_
        rintro e w5 ⟨rfl, hB5⟩
        have HK5 := hid' (HK4.out.below hB5)
        have HJ5 := hid' (HJ4.out.below hB5)
        have HL5 := hid' (bel_then HL4.out hB5)
        clear hB5
        have c0 : w5.cell? ⟨b5, 0, none⟩ = some (.bool t) := by simpa using HK5.out.cell 0
        have c1 : w5.cell? ⟨b5, 1, none⟩ = some (.int .i64 n) := by simpa using HK5.out.cell 1
        have d0 : w5.cell? ⟨b7, 0, none⟩ = some (.bool t) := by simpa using HJ5.out.cell 0
        have d1 : w5.cell? ⟨b7, 1, none⟩ = some (.int .i64 n) := by simpa using HJ5.out.cell 1
        have g0 := HJ5.out.frozen 0
        have g1 := HJ5.out.frozen 1
        have hsh := HJ5.out.shape
        cases t with
        | true =>
          rw [if_pos rfl] at HS
          have hmx : I64 (max n 0) := by unfold I64; omega
          have hss : I64 s := by unfold I64; omega
          go_wp2_with fail
          refine (ref_Add s (max n 0) w5 hss hmx).mono ?_
          rintro e w6 ⟨rfl, rfl⟩
          generalize satAdd s (max n 0) = s2 at *
          go_wp2_with fail
          refine (choice_Tick n w5).mono ?_
          rintro e w7 ⟨rfl, hB7⟩
          have HK7 := hid' (HK5.out.below hB7)
          have HJ7 := hid' (HJ5.out.below hB7)
          have HL7 := hid' (bel_then HL5.out hB7)
          clear hB7 c0 c1 d0 d1 g0 g1 hsh
          have c0 : w7.cell? ⟨b5, 0, none⟩ = some (.bool true) := by simpa using HK7.out.cell 0
          have c1 : w7.cell? ⟨b5, 1, none⟩ = some (.int .i64 n) := by simpa using HK7.out.cell 1
          have d0 : w7.cell? ⟨b7, 0, none⟩ = some (.bool true) := by simpa using HJ7.out.cell 0
          have d1 : w7.cell? ⟨b7, 1, none⟩ = some (.int .i64 n) := by simpa using HJ7.out.cell 1
          have g0 := HJ7.out.frozen 0
          have g1 := HJ7.out.frozen 1
          have hsh := HJ7.out.shape
          go_wp2
          go_roundw
          case rel => exact ⟨k + 1, by omega, by go_num, by rw [HS.out], by repeat (first | exact HL7.out | refine bel_set ?_ (by exact hwb) _)⟩
          case measure => (simp only [intOf]; omega)
        | false =>
          rw [if_neg (by decide)] at HS
          go_wp2_with fail
          refine (choice_Poll n w5).mono ?_
          rintro e w7 ⟨rfl, hB7⟩
          have HK7 := hid' (HK5.out.below hB7)
          have HJ7 := hid' (HJ5.out.below hB7)
          have HL7 := hid' (bel_then HL5.out hB7)
          clear hB7 c0 c1 d0 d1 g0 g1 hsh
          have c0 : w7.cell? ⟨b5, 0, none⟩ = some (.bool false) := by simpa using HK7.out.cell 0
          have c1 : w7.cell? ⟨b5, 1, none⟩ = some (.int .i64 n) := by simpa using HK7.out.cell 1
          have d0 : w7.cell? ⟨b7, 0, none⟩ = some (.bool false) := by simpa using HJ7.out.cell 0
          have d1 : w7.cell? ⟨b7, 1, none⟩ = some (.int .i64 n) := by simpa using HJ7.out.cell 1
          have g0 := HJ7.out.frozen 0
          have g1 := HJ7.out.frozen 1
          have hsh := HJ7.out.shape
          go_wp2
          go_roundw
          case rel => exact ⟨k + 1, by omega, by go_num, by rw [HS.out], by repeat (first | exact HL7.out | refine bel_set ?_ (by exact hwb) _)⟩
          case measure => (simp only [intOf]; omega)
      · obtain rfl : k = l.length := by omega
        rw [List.take_length]
        clear hL
        go_wp2_with fail
        refine (HTK.out wr HL.out).mono ?_
        rintro e w2 ⟨rfl, hB2⟩
        go_wp2
        go_ret
        exact ⟨rfl, bel_then HL.out hB2⟩
end Go.Proofs.YthdblloiapadkaaDoor
