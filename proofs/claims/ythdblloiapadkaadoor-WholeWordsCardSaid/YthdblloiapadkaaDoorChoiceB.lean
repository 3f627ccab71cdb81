
/- Choices in words, in rounds, and their ticks, walked. No condition but the tables and variables of Go's own library. -/
import Derived.Test.YthdblloiapadkaaDoorChoice
import Derived.Test.YthdblloiapadkaaDoorCells
import Derived.Test.YthdblloiapadkaaDoorSat
namespace Go.Proofs.YthdblloiapadkaaDoor
set_option maxRecDepth 100000
set_option linter.unusedSimpArgs false
open Go.RowKit
set_option linter.unusedVariables false
set_option linter.unusedSimpArgs false

def lineS (t : Bool) (n : Int) : ByteArray := strOf (lineL t n)
theorem lineS_tick (n : Int) : (⟨#[116, 105, 99, 107, 32]⟩ : ByteArray) ++ numT n = lineS true n := by
  unfold lineS lineL numT
  rw [if_pos rfl, show (⟨#[116, 105, 99, 107, 32]⟩ : ByteArray) = strOf [116, 105, 99, 107, 32] from rfl, strN_app]; rfl
theorem lineS_poll (n : Int) : (⟨#[112, 111, 108, 108, 32]⟩ : ByteArray) ++ numT n = lineS false n := by
  unfold lineS lineL numT
  rw [show (⟨#[112, 111, 108, 108, 32]⟩ : ByteArray) = strOf [112, 111, 108, 108, 32] from rfl, strN_app]; rfl
theorem lineS_size (t : Bool) {n : Int} (h : I64 n) : (lineS t n).size ≤ 26 := by
  have := itoa_len h
  show (lineL t n).length ≤ 26
  unfold lineL
  rw [List.length_append, List.length_cons]
  cases t
  · show 4 + _ ≤ _; omega
  · show 4 + _ ≤ _; omega
theorem choice_Line (t : Bool) (n : Int) (w : World) (h : I64 n) (hP : PowT w) :
    Calls Tryd.prog 28 #[.agg #[.bool t, .int .i64 n]] w fun e w' => e = .returned (.string (lineS t n)) ∧ Below w.heap.size w w' := by
  have HP := hid' hP
  clear hP
  have HB0 := hid' (bel_alloc (bel_refl w) (.cells #[.bool t, .int .i64 n] 32))
  have HK := hid' (Blk.new_ w 32 #[.bool t, .int .i64 n])
  have hz := numT_size h
  have h1 := lineS_tick n
  have h2 := lineS_poll n
  have H1 := hid' h1
  have H2 := hid' h2
  have hs5 : 5 + (numT n).size ≤ 9223372036854775807 := by omega
  have HN := hid' (fun W (hB : Below w.heap.size w W) => itoaW n W h (HP.out.below hB))
  clear h1 h2 hz
  generalize numT n = y at *
  cases t with
  | true =>
    go_enter Tryd.func28, Tryd.ntmps28
    go_wp2_with fail
    refine (HN.out _ HB0.out).mono ?_
    rintro e w2 ⟨rfl, hB⟩
    have HB := hid' (bel_then HB0.out hB)
    clear hB
    go_wp2
    go_ret
    refine ⟨?_, HB.out⟩
    rw [← H1.out]
    first | rfl | go_simp
  | false =>
    go_enter Tryd.func28, Tryd.ntmps28
    go_wp2_with fail
    refine (HN.out _ HB0.out).mono ?_
    rintro e w2 ⟨rfl, hB⟩
    have HB := hid' (bel_then HB0.out hB)
    clear hB
    go_wp2
    go_ret
    refine ⟨?_, HB.out⟩
    rw [← H2.out]
    first | rfl | go_simp
theorem law20_line (t : Bool) (n : Int) (w : World) (h : I64 n) :
    Calls Tryd.prog 26 #[.agg #[.bool t, .int .i64 n]] w fun e w' => e = .returned (.string (lineS t n)) ∧ Below w.heap.size w w' := by
  have HB0 := hid' (bel_alloc (bel_refl w) (.cells #[.bool t, .int .i64 n] 32))
  have HK := hid' (Blk.new_ w 32 #[.bool t, .int .i64 n])
  have hz := numT_size h
  have h1 := lineS_tick n
  have h2 := lineS_poll n
  have H1 := hid' h1
  have H2 := hid' h2
  have hs5 : 5 + (numT n).size ≤ 9223372036854775807 := by omega
  have HN := hid' (fun W (hB : Below w.heap.size w W) => ref19_Num n W h)
  clear h1 h2 hz
  generalize numT n = y at *
  cases t with
  | true =>
    go_enter Tryd.func26, Tryd.ntmps26
    go_wp2_with fail
    refine (HN.out _ HB0.out).mono ?_
    rintro e w2 ⟨rfl, hB⟩
    have HB := hid' (bel_then HB0.out hB)
    clear hB
    go_wp2
    go_ret
    refine ⟨?_, HB.out⟩
    rw [← H1.out]
    first | rfl | go_simp
  | false =>
    go_enter Tryd.func26, Tryd.ntmps26
    go_wp2_with fail
    refine (HN.out _ HB0.out).mono ?_
    rintro e w2 ⟨rfl, hB⟩
    have HB := hid' (bel_then HB0.out hB)
    clear hB
    go_wp2
    go_ret
    refine ⟨?_, HB.out⟩
    rw [← H2.out]
    first | rfl | go_simp
/-- so many polls, in rounds of so many -/
def rdC (P m : Nat) : List Value := (List.range m).flatMap fun i => [.bool false, .int .i64 ((i % P : Nat) : Int)]
theorem rdC_succ (P m : Nat) : rdC P (m + 1) = rdC P m ++ [.bool false, .int .i64 ((m % P : Nat) : Int)] := by
  unfold rdC; rw [List.range_succ, List.flatMap_append]; simp
theorem pollOne (j : Nat) : ∀ u ∈ [(.bool false : Value), .int .i64 (j : Int)], u.oneCell' = true := by
  intro u hu; simp at hu; rcases hu with h | h <;> rw [h] <;> rfl
set_option maxHeartbeats 8000000 in
theorem choice_Round (p r : Int) (w : World) (hp : p ≤ 1000) (hr : r ≤ 1000) :
    Calls Tryd.prog 27 #[.int .i64 p, .int .i64 r] w fun e w' => ∃ v, e = .returned v ∧ w'.ownsRow w.heap.size 32 2 v (p.toNat * r.toNat) (rdC p.toNat (p.toNat * r.toNat)) ∧ Below w.heap.size w w' := by
  obtain ⟨P, hP⟩ : ∃ P, P = p.toNat := ⟨_, rfl⟩
  obtain ⟨R, hR⟩ : ∃ R, R = r.toNat := ⟨_, rfl⟩
  rw [← hP, ← hR]
  have HB0 := hid' (bel_refl w)
  have HO0 := hid' (World.ownsRow_nil w w.heap.size 32 2)
  go_enter Tryd.func27, Tryd.ntmps27
  go_wp2
  go_loopw [5, 6, 8, 11] (fun v5 v6 v8 v11 wr => ∃ k : Nat, k ≤ R ∧ v8 = .int .i64 k ∧ wr.ownsRow w.heap.size 32 2 v5 (k * P) (rdC P (k * P)) ∧ Below w.heap.size w wr) (fun _ _ v8 _ _ => R - (intOf v8).toNat)
  case atStart => exact ⟨0, Nat.zero_le _, rfl, by rw [Nat.zero_mul]; exact HO0.out, HB0.out⟩
  case round =>
    obtain ⟨k, hk, rfl, hO, hL⟩ := hrel
    have HO := hid' hO
    have HL := hid' hL
    clear hO hL
    by_cases hlt : k < R
    · have hlti : (k : Int) < r := by omega
      go_wp2
      go_loopw [5, 6, 11] (fun v5 v6 v11 wr => ∃ j : Nat, j ≤ P ∧ v11 = .int .i64 j ∧ wr.ownsRow w.heap.size 32 2 v5 (k * P + j) (rdC P (k * P + j)) ∧ Below w.heap.size w wr) (fun _ _ v11 _ => P - (intOf v11).toNat)
      case atStart => exact ⟨0, Nat.zero_le _, rfl, HO.out, HL.out⟩
      case round =>
        obtain ⟨j, hj, rfl, hO, hL⟩ := hrel
        have HO := hid' hO
        have HL := hid' hL
        clear hO hL
        by_cases hjl : j < P
        · have hjli : (j : Int) < p := by omega
          go_wp2_with fail
          refine (choice_Poll (j : Int) wr).mono ?_
          rintro e w2 ⟨rfl, hB2⟩
          have HO2 := hid' (own_below HO.out hB2)
          have HL2 := hid' (bel_then HL.out hB2)
          have hbase := HL2.out.size
          have h8 : (k * P + j + 1) * 16 ≤ 140737488355328 := by
            have : k * P ≤ 1000 * 1000 := Nat.mul_le_mul (by omega) (by omega)
            omega
          have hmod : (k * P + j) % P = j := by rw [Nat.mul_comm, Nat.mul_add_mod]; exact Nat.mod_eq_of_lt hjl
          have HMOD := hid' hmod
          have hone := hid' (pollOne j)
          clear hB2 hmod
          go_wp2_with (at_builtin; (refine ap_cells w.heap.size rfl (.tmp 14) (.tmp 17) 36 32 (.agg #[.bool false, .int .i64 0]) 2 16 rfl (by kernel_rfl) (by kernel_rfl) rfl (by decide) (by decide) _ (k * P + j) (rdC P (k * P + j)) [.bool false, .int .i64 (j : Int)] rfl (by rfl) rfl hone.out HO2.out hbase h8 ?_); intro v1 w4 hown hg hat)
          go_roundw
          case rel => exact ⟨j + 1, by omega, by go_num, by
            rw [← Nat.add_assoc, rdC_succ, HMOD.out]; exact hown, bel_mod HL2.out (Mod.of_grown hg) (fun i hi e => by have := own_base' HO2.out i e; omega)⟩
          case measure => (simp only [intOf]; omega)
        · obtain rfl : j = P := by omega
          have hjl2 : ¬ (j : Int) < p := by omega
          go_wp2
          go_roundw
          case rel => exact ⟨k + 1, by omega, by go_num, by rw [Nat.succ_mul]; exact HO.out, HL.out⟩
          case measure => (simp only [intOf]; omega)
    · obtain rfl : k = R := by omega
      have hlti : ¬ (k : Int) < r := by omega
      rw [Nat.mul_comm] at HO
      go_wp2
      go_ret
      refine ⟨_, rfl, ?_, HL.out⟩
      rw [← hP, ← hR]
      exact HO.out
/-- by how much the clock goes on -/
def tkS (s : Int) (c : Bool × Int) : Int := if c.1 = true ∧ 0 < c.2 then min s (9223372036854775807 - c.2) + c.2 else s
def tks (l : List (Bool × Int)) : Int := l.foldl tkS 0
def fCh (c : Bool × Int) : List Value := [.bool c.1, .int .i64 c.2]
theorem tkS_bd {s : Int} {c : Bool × Int} (h0 : 0 ≤ s) (h1 : s ≤ 9223372036854775807) (hc : I64 c.2) : 0 ≤ tkS s c ∧ tkS s c ≤ 9223372036854775807 := by
  unfold I64 at hc
  unfold tkS
  split <;> omega
theorem tks_snoc {l : List (Bool × Int)} {k : Nat} {c : Bool × Int} (h : l[k]? = some c) : tks (l.take (k + 1)) = tkS (tks (l.take k)) c := by
  unfold tks
  rw [List.take_add_one, h]
  simp
theorem tks_bd {l : List (Bool × Int)} (h : ∀ c ∈ l, I64 c.2) : ∀ k, 0 ≤ tks (l.take k) ∧ tks (l.take k) ≤ 9223372036854775807 := by
  intro k
  induction k with
  | zero => simp [tks]
  | succ k ih =>
    cases hk : l[k]? with
    | none => rw [List.take_of_length_le (by have := List.getElem?_eq_none_iff.1 hk; omega)]; rw [List.take_of_length_le (by have := List.getElem?_eq_none_iff.1 hk; omega)] at ih; exact ih
    | some c => rw [tks_snoc hk]; exact tkS_bd ih.1 ih.2 (h c (List.mem_of_getElem? hk))
theorem RdS.at2 {w : World} {A : Option Addr} {l : List (Bool × Int)} (h : RdS w A 2 fCh l) {k : Nat} (hk : k < l.length) :
    ∃ ad t n, A = some ad ∧ l[k]? = some (t, n) ∧ w.cell? (ad.add (k * 2)) = some (.bool t) ∧ w.cell? ⟨(ad.add (k * 2)).block, (ad.add (k * 2)).off + 1, none⟩ = some (.int .i64 n) := by
  obtain ⟨⟨t, n⟩, hx⟩ : ∃ x, l[k]? = some x := ⟨_, List.getElem?_eq_getElem hk⟩
  obtain ⟨ad, hA, hl, hc⟩ := h k (t, n) hx
  exact ⟨ad, t, n, hA, hx, hc 0 _ rfl, hc 1 _ rfl⟩
set_option maxHeartbeats 8000000 in
theorem choice_Ticks (A : Option Addr) (c : Nat) (l : List (Bool × Int)) (w : World) (hr : RdS w A 2 fCh l) (hl : l.length ≤ 100000) (hI : ∀ c ∈ l, I64 c.2) :
    Calls Tryd.prog 32 #[.slice A l.length c] w fun e w' => e = .returned (.int .i64 (tks l)) ∧ Below w.heap.size w w' := by
  have HR := hid' hr
  have HI := hid' hI
  have HBD := hid' (tks_bd hI)
  have HB0 := hid' (bel_refl w)
  clear hr hI
  go_enter Tryd.func32, Tryd.ntmps32
  go_wp2
  go_loopw [3, 5, 8] (fun v3 v5 v8 wr => ∃ k : Nat, k ≤ l.length ∧ v8 = .int .i64 k ∧ v3 = .int .i64 (tks (l.take k)) ∧ Below w.heap.size w wr) (fun _ _ v8 _ => l.length - (intOf v8).toNat)
  case atStart => exact ⟨0, Nat.zero_le _, rfl, rfl, HB0.out⟩
  case round =>
    obtain ⟨k, hk, rfl, rfl, hL⟩ := hrel
    have HL := hid' hL
    by_cases hlt : k < l.length
    · have hlti : (k : Int) < (l.length : Int) := by omega
      obtain ⟨ad, t, n, rfl, hx, hc0, hc1⟩ := RdS.at2 (HR.out.below hL) hlt
      have hn := HI.out _ (List.mem_of_getElem? hx)
      have hbd := HBD.out k
      have HS := hid' (tks_snoc hx)
      have HLa := hid' (bel_alloc HL.out (.cells #[.bool t, .int .i64 n] 32))
      unfold I64 at hn
      simp only at hn
      clear hL hx
      generalize tks (l.take k) = s at *
      cases t with
      | false =>
        have hs : tkS s (false, n) = s := by unfold tkS; simp
        rw [hs] at HS
        clear hs
        go_wp2
        go_roundw
        case rel => exact ⟨k + 1, by omega, by go_num, by rw [HS.out], HLa.out⟩
        case measure => (simp only [intOf]; omega)
      | true =>
        by_cases h0 : 0 < n
        · have hs : tkS s (true, n) = min s (9223372036854775807 - n) + n := by unfold tkS; simp [h0]
          rw [hs] at HS
          clear hs
          go_wp2
          exact ⟨⟨k + 1, by omega, by go_num, by rw [HS.out], HLa.out⟩, by simp only [intOf]; omega⟩
        · have hs : tkS s (true, n) = s := by unfold tkS; simp [h0]
          rw [hs] at HS
          clear hs
          have h0' : n ≤ 0 := by omega
          go_wp2
          go_roundw
          case rel => exact ⟨k + 1, by omega, by go_num, by rw [HS.out], HLa.out⟩
          case measure => (simp only [intOf]; omega)
    · obtain rfl : k = l.length := by omega
      rw [List.take_length]
      clear hL
      go_wp2
      go_ret
      exact ⟨rfl, HL.out⟩
end Go.Proofs.YthdblloiapadkaaDoor
