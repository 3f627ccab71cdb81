
/- Sameness of configurations (tidewaiterref19.Same), walked. No condition. -/
import Derived.Test.YthdblloiapadkaaDoorConfigE
namespace Go.Proofs.YthdblloiapadkaaDoor
set_option maxRecDepth 100000
set_option linter.unusedSimpArgs false
open Go.RowKit
set_option linter.unusedVariables false
set_option linter.unusedSimpArgs false

set_option maxHeartbeats 8000000 in
theorem ref19_Same (A B : Option Addr) (cp cq : Nat) (l : List Rl) (t d : Int) (w : World) (hr : RdS w A 5 fRl l) (hr2 : RdS w B 5 fRl l) (hl : l.length ≤ 1000000) :
    Calls Tryd.prog 39 #[.agg #[.slice A l.length cp, .int .i64 t, .int .i64 d], .agg #[.slice B l.length cq, .int .i64 t, .int .i64 d]] w fun e w' => e = .returned (.bool true) ∧ Below w.heap.size w w' := by
  have HR := hid' hr
  have HR2 := hid' hr2
  have hba := bel_alloc (bel_refl w) (.cells #[.slice A l.length cp, .int .i64 t, .int .i64 d] 45)
  have HKa := hid' (Blk.new_ w 45 #[.slice A l.length cp, .int .i64 t, .int .i64 d])
  have hbb := bel_alloc (bel_refl (w.alloc (.cells #[.slice A l.length cp, .int .i64 t, .int .i64 d] 45))) (.cells #[.slice B l.length cq, .int .i64 t, .int .i64 d] 45)
  have HKb := hid' (Blk.new_ (w.alloc (.cells #[.slice A l.length cp, .int .i64 t, .int .i64 d] 45)) 45 #[.slice B l.length cq, .int .i64 t, .int .i64 d])
  have HKc := hid' (HKa.out.below hbb)
  have HL0 := hid' (bel_then hba hbb)
  have hs1 : (w.alloc (.cells #[.slice A l.length cp, .int .i64 t, .int .i64 d] 45)).heap.size = w.heap.size + 1 := by simp
  rw [hs1] at HKb
  clear hba hbb hr hr2 HKa
  have d0 : (t == t) = true := by simp
  have d1 : (d == d) = true := by simp
  go_enter Tryd.func39, Tryd.ntmps39
  go_wp2
  generalize hw0 : (w.alloc (.cells #[.slice A l.length cp, .int .i64 t, .int .i64 d] 45)).alloc (.cells #[.slice B l.length cq, .int .i64 t, .int .i64 d] 45) = w0 at *
  go_loopw [5] (fun v5 wr => ∃ k : Nat, k ≤ l.length ∧ v5 = .int .i64 k ∧ Blk wr w.heap.size 45 #[.slice A l.length cp, .int .i64 t, .int .i64 d] ∧ Blk wr (w.heap.size + 1) 45 #[.slice B l.length cq, .int .i64 t, .int .i64 d] ∧ Below w.heap.size w wr) (fun v5 _ => l.length - (intOf v5).toNat)
  case atStart => exact ⟨0, Nat.zero_le _, rfl, HKc.out, HKb.out, HL0.out⟩
  case round =>
    obtain ⟨k, hk, rfl, hKa, hKb, hL⟩ := hrel
    have HA := hid' hKa
    have HB := hid' hKb
    have HL := hid' hL
    have e0 : wr.cell? ⟨w.heap.size, 0, none⟩ = some (.slice A l.length cp) := by simpa using hKa.cell 0
    have e1 : wr.cell? ⟨w.heap.size + 1, 0, none⟩ = some (.slice B l.length cq) := by simpa using hKb.cell 0
    by_cases hlt : k < l.length
    · have hlti : (k : Int) < (l.length : Int) := by omega
      obtain ⟨ad, a, b, q, n, s, rfl, hx, c0, c1, c2, c3, c4⟩ := (HR.out.below hL).at5 hlt
      obtain ⟨ad2, a', b', q', n', s', rfl, hx', k0, k1, k2, k3, k4⟩ := (HR2.out.below hL).at5 hlt
      rw [hx] at hx'
      simp only [Option.some.injEq, Prod.mk.injEq] at hx'
      obtain ⟨rfl, rfl, rfl, rfl, rfl⟩ := hx'
      clear hL hKa hKb hx
      go_wp2
      go_quiet (fail)
      go_wp2
      go_roundw
      case rel => exact ⟨k + 1, by omega, by go_num, by first | exact HA.out.drewN _ | exact HA.out.drew, by first | exact HB.out.drewN _ | exact HB.out.drew, by first | exact bel_drewN HL.out _ | exact bel_drew HL.out⟩
      case measure => (simp only [intOf]; omega)
    · obtain rfl : k = l.length := by omega
      clear hL hKa hKb
      go_wp2
      go_ret
      exact ⟨rfl, HL.out⟩
end Go.Proofs.YthdblloiapadkaaDoor
