
/- The laws of choices, walked: rounds, and there and back. No condition but the tables and variables of Go's own library. -/
import Derived.Test.YthdblloiapadkaaDoorLawChoice
namespace Go.Proofs.YthdblloiapadkaaDoor
set_option maxRecDepth 100000
set_option linter.unusedSimpArgs false
open Go.RowKit
set_option linter.unusedVariables false
set_option linter.unusedSimpArgs false

theorem rdC_len (P : Nat) : ∀ m, (rdC P m).length = m * 2
  | 0 => rfl
  | m + 1 => by rw [rdC_succ, List.length_append, rdC_len P m]; simp; omega
theorem rdC_get (P : Nat) : ∀ (m i : Nat), i < m → (rdC P m)[i * 2]? = some (.bool false) ∧ (rdC P m)[i * 2 + 1]? = some (.int .i64 ((i % P : Nat) : Int)) := by
  intro m
  induction m with
  | zero => intro i hi; omega
  | succ m ih =>
    intro i hi
    have hl := rdC_len P m
    rw [rdC_succ]
    by_cases h : i < m
    · obtain ⟨h1, h2⟩ := ih i h
      rw [List.getElem?_append_left (by omega), List.getElem?_append_left (by omega)]
      exact ⟨h1, h2⟩
    · obtain rfl : i = m := by omega
      rw [List.getElem?_append_right (by omega), List.getElem?_append_right (by omega), hl]
      simp
theorem rd_two {w : World} {A : Option Addr} {L : List Value} (h : Rd w A L) {i : Nat} {u v : Value} (h0 : L[i * 2]? = some u) (h1 : L[i * 2 + 1]? = some v) :
    ∃ ad, A = some ad ∧ w.cell? (ad.add (i * 2)) = some u ∧ w.cell? ⟨(ad.add (i * 2)).block, (ad.add (i * 2)).off + 1, none⟩ = some v := by
  obtain ⟨ad, hA, c0⟩ := h _ _ h0
  obtain ⟨ad', hA', c1⟩ := h _ _ h1
  rw [hA] at hA'; injection hA' with hA'; subst hA'
  refine ⟨ad, hA, c0, ?_⟩
  have := add_add' ad (i * 2) 1
  rw [← this] at c1
  exact c1
set_option maxHeartbeats 8000000 in
theorem choiceRounds (p r : Int) (w : World) (hp : (Lit.int .i64 p).wf = true) (hr : (Lit.int .i64 r).wf = true) (hP : PowT w) (hE : ErV w) (hM : MaxT w) :
    Calls Tryd.prog 7 #[.int .i64 p, .int .i64 r] w fun e w' => e = .returned (.bool true) ∧ Below w.heap.size w w' := by
  have HS := hid' (speaks20 w hP hE hM)
  clear hP hE hM hp hr
  by_cases hbig : 100 < p
  · go_enter Tryd.func7, Tryd.ntmps7
    go_wp2_with fail
    refine HS.out.mono ?_
    rintro e w1 ⟨rfl, hB1⟩
    go_wp2
    go_ret
    exact ⟨rfl, hB1⟩
  · have hp1 : p ≤ 100 := by omega
    by_cases hbig2 : 100 < r
    · go_enter Tryd.func7, Tryd.ntmps7
      go_wp2_with fail
      refine HS.out.mono ?_
      rintro e w1 ⟨rfl, hB1⟩
      go_wp2
      go_ret
      exact ⟨rfl, hB1⟩
    · have hr1 : r ≤ 100 := by omega
      obtain ⟨P, hP⟩ : ∃ P, P = p.toNat := ⟨_, rfl⟩
      obtain ⟨R, hR⟩ : ∃ R, R = r.toNat := ⟨_, rfl⟩
      have HR := hid' (fun W => choice_Round p r W (by omega) (by omega))
      rw [← hP, ← hR] at HR
      obtain ⟨N, hN⟩ : ∃ N, N = P * R := ⟨_, rfl⟩
      rw [← hN] at HR
      have hNb : N ≤ 10000 := by
        have : P * R ≤ 100 * 100 := Nat.mul_le_mul (by omega) (by omega)
        omega
      have hm1 : max p 0 = (P : Int) := by omega
      have hm2 : max r 0 = (R : Int) := by omega
      have hmul : (P : Int) * (R : Int) = (N : Int) := by rw [hN]; push_cast; rfl
      have hpp : 0 < N → p = (P : Int) := by
        intro h
        rcases Nat.eq_zero_or_pos P with h0 | h0
        · rw [hN, h0, Nat.zero_mul] at h; omega
        · omega
      have HPP := hid' hpp
      have hP2 : P ≤ 100 := by omega
      have hR2 : R ≤ 100 := by omega
      clear hP hR hN hpp
      go_enter Tryd.func7, Tryd.ntmps7
      go_wp2_with fail
      refine HS.out.mono ?_
      rintro e w1 ⟨rfl, hB1⟩
      go_wp2_with fail
      refine (HR.out w1).mono ?_
      rintro e w2 ⟨v, rfl, hown, hB2⟩
      obtain ⟨A, c, rfl, _, _, hrd⟩ := own_rd hown
      have HRD := hid' hrd
      have HL2 := hid' (bel_then hB1 hB2)
      clear hown hrd hB1 hB2
      go_wp2
      go_loopw [6, 7, 29] (fun v6 v7 v29 wr => ∃ k : Nat, k ≤ N ∧ v29 = .int .i64 k ∧ Rd wr A (rdC P N) ∧ Below w.heap.size w wr) (fun _ _ v29 _ => N - (intOf v29).toNat)
      case atStart => exact ⟨0, Nat.zero_le _, rfl, HRD.out, HL2.out⟩
      case round =>
        obtain ⟨k, hk, rfl, hrd, hL⟩ := hrel
        have HL := hid' hL
        have HRD := hid' hrd
        by_cases hlt : k < N
        · have hlti : (k : Int) < (N : Int) := by omega
          obtain ⟨g0, g1⟩ := rdC_get P N k hlt
          obtain ⟨ad, rfl, hc0, hc1⟩ := rd_two hrd g0 g1
          obtain rfl := HPP.out (by omega)
          have hP0 : 0 < P := by
            rcases Nat.eq_zero_or_pos P with h0 | h0
            · subst h0; omega
            · exact h0
          have hP0i : (0 : Int) < (P : Int) := by omega
          have hmod : (k : Int).tmod (P : Int) = ((k % P : Nat) : Int) := by rw [Int.tmod_eq_emod_of_nonneg (by omega)]; exact (Int.natCast_emod _ _).symm
          obtain ⟨m, hm⟩ : ∃ m, m = k % P := ⟨_, rfl⟩
          rw [← hm] at hmod hc1
          clear g0 g1 hL hrd hm
          have hP0n : ((P : Int) == 0) = false := by rw [beq_eq_false_iff_ne]; omega
          have HLa := hid' (bel_alloc HL.out (.cells #[.bool false, .int .i64 (m : Int)] 32))
          have HRa := hid' (HRD.out.below (bel_alloc (bel_refl wr) (.cells #[.bool false, .int .i64 (m : Int)] 32)))
          go_wp2
          go_quiet (fail)
          go_wp2
          go_roundw
          case rel => exact ⟨k + 1, by omega, by go_num, HRa.out.below (by first | exact bel_drewN (bel_refl _) _ | exact bel_drew (bel_refl _)), by first | exact bel_drewN HLa.out _ | exact bel_drew HLa.out⟩
          case measure => (simp only [intOf]; omega)
        · obtain rfl : k = N := by omega
          go_wp2
          go_ret
          exact ⟨rfl, HL.out⟩
end Go.Proofs.YthdblloiapadkaaDoor
