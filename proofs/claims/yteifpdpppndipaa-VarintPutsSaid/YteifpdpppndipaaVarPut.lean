
/- What varint.PutInt and the reference's Put answer. No condition. -/
import Derived.Test.YteifpdpppndipaaVarint
import Derived.Test.YteifpdpppndipaaVarGetR
namespace Go.Proofs.Yteifpdpppndipaa
set_option maxRecDepth 100000
set_option linter.unusedSimpArgs false
open Go.RowKit
set_option linter.unusedVariables false
set_option linter.unusedSimpArgs false

theorem varint_PutInt (base : Nat) (v : Value) (xs : List UInt8) (n : Int) (w : World) (ho : OwnC w base v xs.length (xs.map bcell)) (hb : base ≤ w.heap.size) (hn : I64 n) (hx : xs.length ≤ 1000000) :
    Calls Try.prog 6 #[v, .int .i64 n] w fun e w' => ∃ v', e = .returned v' ∧ OwnC w' base v' (xs ++ vput (vfold n)).length ((xs ++ vput (vfold n)).map bcell) ∧
      Mod (fun k => v.ownBlock = some k) w w' ∧ (v'.ownBlock = v.ownBlock ∨ ∃ k, v'.ownBlock = some k ∧ w.heap.size ≤ k) := by
  have HO := hid' ho
  clear ho
  go_enter Try.func6, Try.ntmps6
  go_wp2_with fail
  go_wp2_with fail
  refine (varint_Fold n _ hn).mono ?_
  rintro e w' ⟨rfl, rfl⟩
  go_wp2_with fail
  refine (varint_Put base v xs (vfold n) _ HO.out hb (vfold_lt hn) hx).mono ?_
  rintro e w' ⟨v1, rfl, h1, h2, h3⟩
  have H1 := hid' h1
  have H2 := hid' h2
  have H3 := hid' h3
  clear h1 h2 h3
  go_wp2
  go_ret
  exact ⟨v1, rfl, H1.out, H2.out, H3.out⟩

theorem own_empty (w : World) (e : TypeId) : OwnC (w.alloc (.cells #[] e)) w.heap.size (.slice (some ⟨w.heap.size, 0, none⟩) 0 0) 0 [] :=
  ⟨rfl, by unfold maxLen; omega, .inr ⟨w.heap.size, 0, rfl, Nat.le_refl _, by simp, Nat.le_refl _, fun j u hj => by simp at hj, fun j h1 h2 => by omega⟩⟩
theorem rem_cell (m : Nat) : (IntKind.u8.wrap (((m : Int) % 128) % 256 + 128)) = ((m % 128 + 128 : Nat) : Int) := by
  simp [IntKind.wrap, IntKind.bits, IntKind.signed]; omega

set_option maxRecDepth 100000 in
theorem ref02_Put (n : Nat) (w : World) (hn : n < 18446744073709551616) :
    Calls Try.prog 8 #[.int .u64 n] w fun e w' => e = .returned (.string (strOf (vput n))) ∧ Below w.heap.size w w' := by
  have hl : (vput n).length ≤ 10 := by
    have := vput_len 9 n (by have : (128 : Nat) ^ (9 + 1) = 1180591620717411303424 := by decide
                             omega)
    omega
  have HL := hid' hl
  clear hl
  have HO := hid' (own_empty w 5)
  go_enter Try.func8, Try.ntmps8
  go_wp2
  go_loopw [0, 3] (fun v0 v3 wr => ∃ (ys : List UInt8) (m : Nat), v0 = .int .u64 m ∧ m < 18446744073709551616 ∧ Hid (ys ++ vput m = vput n) ∧ OwnC wr w.heap.size v3 ys.length (ys.map bcell) ∧
    Below w.heap.size w wr) (fun v0 _ _ => (intOf v0).toNat)
  case atStart => exact ⟨[], n, rfl, hn, rfl, HO.out, (by repeat (first | assumption | apply bel_alloc | apply bel_drewN | apply bel_drew | exact bel_refl _))⟩
  case round =>
    obtain ⟨ys, m, rfl, hm, HE, hown, hmod⟩ := hrel
    have HO1 := hid' hown
    have HM := hid' hmod
    have hsz : w.heap.size ≤ wr.heap.size := hmod.size
    have hys : ys.length + 1 ≤ 1000020 := by
      have h1 := congrArg List.length HE.out
      have h2 := HL.out
      have h3 := vput_pos m
      rw [List.length_append] at h1
      omega
    clear hown hmod
    by_cases hlt : m < 128
    · have HV := hid' (vput_lt hlt)
      have HC := hid' (bcell_ofNat (m := m) (by omega))
      have hmod256 : (m : Int) % 256 = (m : Int) := by omega
      go_wp2_with (at_builtin; go_loud (refine ap_c w.heap.size rfl (.tmp 16) (.tmp 19) 24 5 (.int .u8 0) 1 rfl (by kernel_rfl) (by kernel_rfl) rfl (by decide) u3 ys.length (ys.map bcell) (.int .u8 m) rfl rfl rfl HO1.out hsz (by omega) ?_); intro v1 w1 hown1 hg1 hat1)
      have hm2 := bel_mod HM.out (Mod.of_grown hg1) (fun i hi e => by have := HO1.out.base i e; omega)
      have e : vput n = ys ++ [UInt8.ofNat m] := by rw [← HE.out, HV.out]
      have hown2 : OwnC w1 w.heap.size v1 (ys.length + 1) ((vput n).map bcell) := by
        have := hown1
        rw [e, List.map_append, List.map_cons, List.map_nil, HC.out]
        exact this
      have hconv := hown2.string (P := Try.prog) 24 9 5 (by kernel_rfl) (by kernel_rfl) (by kernel_rfl)
      have HM2 := hid' hm2
      clear hown1 hown2 hg1 hat1 hm2 e
      go_wp2
      rw [hconv]
      go_wp2
      go_ret
      exact ⟨rfl, HM2.out⟩
    · have HV := hid' (vput_ge hlt)
      have HC := hid' (bcell_ofNat (m := m % 128 + 128) (by omega))
      have hrem := rem_cell m
      go_wp2_with (at_builtin; go_loud (refine ap_c w.heap.size rfl (.tmp 7) (.tmp 12) 24 5 (.int .u8 0) 1 rfl (by kernel_rfl) (by kernel_rfl) rfl (by decide) u3 ys.length (ys.map bcell) (.int .u8 ((m % 128 + 128 : Nat) : Int)) rfl rfl rfl HO1.out hsz (by omega) ?_); intro v1 w1 hown1 hg1 hat1)
      have hm2 := bel_mod HM.out (Mod.of_grown hg1) (fun i hi e => by have := HO1.out.base i e; omega)
      have HO2 := hid' hown1
      have HM2 := hid' hm2
      clear hown1 hg1 hat1 hm2 hrem
      go_wp2
      go_roundw
      case rel =>
        refine ⟨ys ++ [UInt8.ofNat (m % 128 + 128)], m / 128, by go_num, by omega, ?_, ?_, HM2.out⟩
        · unfold Hid; rw [← HE.out, HV.out]; simp
        · have := HO2.out
          rw [List.map_append, List.map_cons, List.map_nil, HC.out, List.length_append]
          exact this
      case measure => simp [intOf]; omega
end Go.Proofs.Yteifpdpppndipaa
