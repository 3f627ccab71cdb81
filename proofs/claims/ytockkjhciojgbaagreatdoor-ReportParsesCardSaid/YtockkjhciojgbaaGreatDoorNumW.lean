
/- Numbers in words (tidewaiterref19.Num, config.Numbers), walked. No condition but the tables and variables of Go's own library. -/
import Derived.Test.YtockkjhciojgbaaGreatDoorNumPure
import Derived.Test.YtockkjhciojgbaaGreatDoorPackQ
import Derived.Test.YtockkjhciojgbaaGreatDoorTabsQ
import Derived.Test.YtockkjhciojgbaaGreatDoorShelf
namespace Go.Proofs.YtockkjhciojgbaaGreatDoor
set_option maxRecDepth 100000
set_option linter.unusedSimpArgs false
open Go.RowKit
set_option linter.unusedVariables false
set_option linter.unusedSimpArgs false

def numT (n : Int) : ByteArray := strOf (Lib.itoa n)
theorem numT_size {n : Int} (h : I64 n) : (numT n).size ≤ 21 := itoa_len h
theorem strN_app (a b : List UInt8) : strOf a ++ strOf b = strOf (a ++ b) := by
  unfold strOf; apply ByteArray.ext; rw [ByteArray.data_append]; simp
theorem below_growN (w : World) (k : Nat) (os : Array Obj) : Below w.heap.size w (Go.Sort.grow (w.drewN k) os) :=
  ⟨rfl, rfl, rfl, by show w.heap.size ≤ (w.heap ++ os).size; simp, fun i hi => by
    show (w.heap ++ os)[i]? = _
    exact Array.getElem?_append_left hi⟩
theorem itoaW (n : Int) (w : World) (h : I64 n) (hP : PowT w) : Calls Tryz.prog 50 #[.int .i64 n] w fun e w' => e = .returned (.string (numT n)) ∧ Below w.heap.size w w' :=
  (Tryz.strconv_Itoa n h.1 h.2 w hP).mono fun e w' ⟨he, k, os, hw⟩ => ⟨he, by rw [hw]; exact below_growN w k os⟩
set_option maxHeartbeats 4000000 in
theorem ref19_NumP : ∀ (n : Nat) (w : World), n ≤ 9223372036854775807 →
    Calls Tryz.prog 16 #[.int .i64 (n : Int)] w fun e w' => e = .returned (.string (numT (n : Int))) ∧ Below w.heap.size w w' := by
  intro n
  induction n using Nat.strongRecOn with
  | ind n ih =>
    intro w hn
    obtain ⟨d, hd⟩ : ∃ d, d = n % 10 := ⟨_, rfl⟩
    have hd10 : d < 10 := by omega
    have hrem : (n : Int).tmod 10 = (d : Int) := by rw [Int.tmod_eq_emod_of_nonneg (by omega)]; omega
    obtain ⟨c, hc⟩ : ∃ c, c = 48 + d := ⟨_, rfl⟩
    have hcc : (48 : Int) + (d : Int) = (c : Int) := by omega
    have hconv := convQ_one w c (by omega)
    have HB0 := hid' (bel_alloc (bel_refl w) (.cells #[.int .u8 (c : Int)] 5))
    obtain ⟨st, hst⟩ : ∃ st, st = numT (n : Int) := ⟨_, rfl⟩
    rw [← hst]
    by_cases h10 : n < 10
    · have hh : st = strOf [UInt8.ofNat c] := by rw [hst]; unfold numT; rw [itoa_pos_small h10, hc, hd, Nat.mod_eq_of_lt h10]
      rw [← hh] at hconv
      have hcb : c < 256 := by omega
      clear hst hd hh ih hc
      go_enter Tryz.func16, Tryz.ntmps16
      go_wp2
      go_ret
      exact ⟨rfl, HB0.out⟩
    · obtain ⟨m, hm⟩ : ∃ m, m = n / 10 := ⟨_, rfl⟩
      have hml := itoa_len (n := (m : Int)) (by unfold I64; omega)
      have hh : st = numT (m : Int) ++ strOf [UInt8.ofNat c] := by rw [hst]; unfold numT; rw [itoa_pos_big h10, ← hd, ← hm, strN_app, hc]
      have hquo : (n : Int).tdiv 10 = (m : Int) := by rw [Int.tdiv_eq_ediv_of_nonneg (by omega)]; omega
      have hwm : wrap64 (m : Int) = (m : Int) := by unfold wrap64; omega
      have HI := hid' (fun W => ih m (by omega) W (by omega))
      have hcb : c < 256 := by omega
      have hsz : (numT (m : Int)).size + (strOf [UInt8.ofNat c]).size ≤ 9223372036854775807 := by
        show (Lib.itoa (m : Int)).length + 1 ≤ _
        omega
      rw [hh]
      clear hst hd hh ih hm hml hc
      generalize strOf [UInt8.ofNat c] = x at *
      generalize numT (m : Int) = y at *
      go_enter Tryz.func16, Tryz.ntmps16
      go_wp2_with fail
      refine (HI.out _).mono ?_
      rintro e w2 ⟨rfl, hB⟩
      have HB := hid' (bel_then HB0.out hB)
      clear hB
      go_wp2
      go_ret
      refine ⟨?_, HB.out⟩
      go_simp
set_option maxHeartbeats 4000000 in
theorem ref19_NumN : ∀ (n : Nat) (w : World), 1 ≤ n → n ≤ 9223372036854775808 →
    Calls Tryz.prog 16 #[.int .i64 (-(n : Int))] w fun e w' => e = .returned (.string (numT (-(n : Int)))) ∧ Below w.heap.size w w' := by
  intro n
  induction n using Nat.strongRecOn with
  | ind n ih =>
    intro w h1 hn
    obtain ⟨d, hd⟩ : ∃ d, d = n % 10 := ⟨_, rfl⟩
    have hd10 : d < 10 := by omega
    have hrem : (-(n : Int)).tmod 10 = -(d : Int) := by rw [Int.neg_tmod, Int.tmod_eq_emod_of_nonneg (by omega)]; omega
    obtain ⟨c, hc⟩ : ∃ c, c = 48 + d := ⟨_, rfl⟩
    have hcc : (48 : Int) + (d : Int) = (c : Int) := by omega
    have hconv := convQ_one w c (by omega)
    have HB0 := hid' (bel_alloc (bel_refl w) (.cells #[.int .u8 (c : Int)] 5))
    obtain ⟨st, hst⟩ : ∃ st, st = numT (-(n : Int)) := ⟨_, rfl⟩
    rw [← hst]
    obtain ⟨z, hz⟩ : ∃ z : Int, z = -(n : Int) := ⟨_, rfl⟩
    rw [← hz] at hrem ⊢
    have hz0 : z < 0 := by omega
    by_cases h10 : n < 10
    · have hh : st = strOf [45] ++ strOf [UInt8.ofNat c] := by rw [hst]; unfold numT; rw [itoa_neg_small h1 h10, strN_app, hc, hd, Nat.mod_eq_of_lt h10]; rfl
      have hcb : c < 256 := by omega
      have hz10 : -10 < z := by omega
      have hz11 : -10 ≤ z := by omega
      rw [hh]
      clear hst hd hh ih hc hz
      have hsz : 1 + (strOf [UInt8.ofNat c]).size ≤ 9223372036854775807 := by show 1 + 1 ≤ _; omega
      generalize strOf [UInt8.ofNat c] = x at *
      go_enter Tryz.func16, Tryz.ntmps16
      go_wp2
      go_ret
      refine ⟨?_, HB0.out⟩
      first | rfl | go_simp
    · obtain ⟨m, hm⟩ : ∃ m, m = n / 10 := ⟨_, rfl⟩
      have hml := itoa_len (n := -(m : Int)) (by unfold I64; omega)
      have hh : st = numT (-(m : Int)) ++ strOf [UInt8.ofNat c] := by rw [hst]; unfold numT; rw [itoa_neg_big h10, ← hd, ← hm, strN_app, hc]
      have hquo : z.tdiv 10 = -(m : Int) := by rw [hz, Int.neg_tdiv, Int.tdiv_eq_ediv_of_nonneg (by omega)]; omega
      have hwm : wrap64 (-(m : Int)) = -(m : Int) := by unfold wrap64; omega
      have HI := hid' (fun W => ih m (by omega) W (by omega) (by omega))
      have hcb : c < 256 := by omega
      have hz10 : ¬ -10 < z := by omega
      have hz11 : z ≤ -10 := by omega
      have hsz : (numT (-(m : Int))).size + (strOf [UInt8.ofNat c]).size ≤ 9223372036854775807 := by
        show (Lib.itoa (-(m : Int))).length + 1 ≤ _
        omega
      rw [hh]
      clear hst hd hh ih hm hml hc hz
      generalize strOf [UInt8.ofNat c] = x at *
      generalize numT (-(m : Int)) = y at *
      go_enter Tryz.func16, Tryz.ntmps16
      go_wp2_with fail
      refine (HI.out _).mono ?_
      rintro e w2 ⟨rfl, hB⟩
      have HB := hid' (bel_then HB0.out hB)
      clear hB
      go_wp2
      go_ret
      refine ⟨?_, HB.out⟩
      go_simp
theorem ref19_Num (n : Int) (w : World) (h : I64 n) :
    Calls Tryz.prog 16 #[.int .i64 n] w fun e w' => e = .returned (.string (numT n)) ∧ Below w.heap.size w w' := by
  unfold I64 at h
  by_cases h0 : 0 ≤ n
  · obtain ⟨m, rfl⟩ := Int.eq_ofNat_of_zero_le h0
    exact ref19_NumP m w (by omega)
  · have := ref19_NumN n.natAbs w (by omega) (by omega)
    rwa [show (-(n.natAbs : Int)) = n by omega] at this
/-- strconv.Atoi: the number, or an error. -/
theorem atoiW (s : ByteArray) (w : World) (hs : s.size ≤ 200000) (hE : ErV w) :
    Calls Tryz.prog 150 #[.string s] w fun e w' => ((∃ v, Lib.atoiAll (bL s) = .ok v ∧ e = .returned (.tuple #[.int .i64 v, .nilIface])) ∨ ((∀ v, Lib.atoiAll (bL s) ≠ .ok v) ∧ ∃ v t p, e = .returned (.tuple #[.int .i64 v, .iface t p]))) ∧ Below w.heap.size w w' := by
  obtain ⟨⟨t1, p1, h1⟩, t2, p2, h2⟩ := hE
  have hlim : s.size ≤ 281474976710656 := by omega
  rcases h : Lib.atoiAll (bL s) with v | _ | _
  · refine (Tryz.strconv_Atoi_ok s (by omega) v h w).mono fun e w' ⟨he, hw⟩ => ⟨.inl ⟨v, rfl, he⟩, ?_⟩
    rcases hw with rfl | ⟨t, rfl⟩
    · exact bel_refl _
    · exact bytesWorld_below w 5 t
  · exact (Any.strconv_Atoi_syntax_var Tryz.laysC172 s hlim h t1 p1 w h1).mono fun e w' ⟨N, he, _, _, hb⟩ => ⟨.inr ⟨fun v hv => (by cases hv), _, _, _, he⟩, hb⟩
  · exact (Any.strconv_Atoi_range_var Tryz.laysC172 s hlim h t2 p2 w h2).mono fun e w' ⟨N, he, _, _, hb⟩ => ⟨.inr ⟨fun v hv => (by cases hv), _, _, _, he⟩, hb⟩
end Go.Proofs.YtockkjhciojgbaaGreatDoor
