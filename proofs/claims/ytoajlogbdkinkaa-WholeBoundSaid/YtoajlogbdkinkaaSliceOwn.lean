
/- slices.Clone and slices.Reverse at ints. No condition. (Turned from the kit's walks of the shelf.) -/
import Derived.Test.YtoajlogbdkinkaaClamp
import Derived.Sort.WalkB12
import Derived.Lib.SlicesMore
import Derived.Lib.OwnBridge
import Derived.WalkKit
import Derived.Deep.LoopGhost
import Derived.BigRegion
namespace Go.Proofs.Ytoajlogbdkinkaa
open Go.RowKit
set_option linter.unusedVariables false

theorem slices_CloneI (A : Option Addr) (c : Nat) (l : List Int) (w : World) (hr : Rd w A (l.map (.int .i64))) (hn : l.length ≤ 1000) :
    Calls Try.prog 51 #[.slice A l.length c] w fun e w' => ∃ v, e = .returned v ∧ w'.ownsRow w.heap.size 3 1 v l.length (l.map (.int .i64)) ∧ Below w.heap.size w w' := by
  cases A with
  | none =>
    have h0 : l = [] := by
      cases l with
      | nil => rfl
      | cons x l => obtain ⟨ad, h, _⟩ := hr 0 (.int .i64 x) rfl; cases h
    subst h0
    have q26 : ∀ (w : World) (a : Option Addr) (n c n' c' : Nat), (binOp .eql 26 (.slice a n c) (.slice none n' c')).run Try.prog w = .ok (.bool a.isNone) w := fun w a n c n' c' => Lib.run_eql_slice_nil w _ _ a n c n' c' (show Try.prog.underlying 26 = some (.slice 3) by kernel_rfl)
    go_enter Try.func51, Try.ntmps51
    go_wp2
    go_ret
    exact ⟨_, rfl, own_nil' _ _ _ _, bel_refl w⟩
  | some ad =>
    have H := hid' hr
    clear hr
    have q26 : ∀ (w : World) (a : Option Addr) (n c n' c' : Nat), (binOp .eql 26 (.slice a n c) (.slice none n' c')).run Try.prog w = .ok (.bool a.isNone) w := fun w a n c n' c' => Lib.run_eql_slice_nil w _ _ a n c n' c' (show Try.prog.underlying 26 = some (.slice 3) by kernel_rfl)
    obtain ⟨i0, hi, hz⟩ := Option.map_eq_some_iff.1 (show (Try.prog.info? 3).map (fun i => (i.zero, i.size, i.bytes)) = some (some (Value.int .i64 0), 1, 8) by kernel_rfl)
    simp only [Prod.mk.injEq] at hz
    obtain ⟨hz0, hz1, hz2⟩ := hz
    go_enter Try.func51, Try.ntmps51
    go_wp2_with (at_builtin; refine wpList_append_own _ rfl _ _ 26 rfl w.heap.size 3 i0 (.int .i64 0) 1 8 (by kernel_rfl) hi hz0 hz1 hz2 rfl (by decide) _ _ _ rfl (World.ownsRow_made w #[] 0 (Nat.le_refl _) (Nat.zero_le _) rfl) ad l.length c (l.map (.int .i64)) rfl ?qc1 ?qc2 ?qc3 ?qc4 ?qc5 ?qc6 ?_)
    case qc1 => simp
    case qc2 =>
      intro j u hj
      obtain ⟨ad', e, hc⟩ := H.out j u hj
      injection e with e
      subst e
      exact Lib.cell?_alloc_some _ hc
    case qc3 => intro u hu; obtain ⟨x, _, rfl⟩ := List.mem_map.1 hu; rfl
    case qc4 => unfold maxLen; omega
    case qc5 => omega
    case qc6 => simp
    intro v' w1 hown hgrow hnil
    go_wp2
    go_ret
    refine ⟨v', rfl, by simpa using hown, ?_⟩
    exact ((Below.refl _ w).alloc (Nat.le_refl _) _).grown hgrow (by simp) (by intro k hk; simp [Value.ownBlock] at hk; omega)

set_option maxHeartbeats 1600000 in
theorem slices_ReverseI (blk off cap : Nat) (d : Array Int) (w : World) (hH : Sort.Holds encI w blk off d) (hsz : d.size ≤ 1000) :
    Calls Try.prog 52 #[.slice (some ⟨blk, off, none⟩) d.size cap] w fun e w' => e = .returned (.tuple #[]) ∧ ∃ n, w' = Sort.putRow encI (Sort.ahead w n) blk off d.reverse := by
  go_enter Try.func52, Try.ntmps52
  go_wp2
  go_loopg [2, 3] d.size (fun k s2 s3 wr => ∃ (i jn : Nat) (jz : Int) (dk : Array Int) (n : Nat), s2 = .int .i64 i ∧ s3 = .int .i64 jz ∧ ((i : Int) < jz → jz = jn ∧ jn < d.size) ∧ (¬ (i : Int) < jz → ¬ i < jn) ∧ jn - i ≤ k ∧
    dk.size = d.size ∧ wr = Sort.putRow encI (Sort.ahead w n) blk off dk ∧ Sort.reverseLoop i jn dk = Sort.reverseLoop 0 (d.size - 1) d)
  case atStart => exact ⟨0, d.size - 1, (d.size : Int) - 1, d, 0, rfl, rfl, fun h => ⟨by omega, by omega⟩, fun h => by omega, by omega, rfl, (Sort.putRow_self encI w blk off d hH).symm, rfl⟩
  case round =>
    obtain ⟨i, jn, jz, dk, n, rfl, rfl, h1, h2, hk, hds, hwr, heq⟩ := hrel
    by_cases hlt : (i : Int) < jz
    · obtain ⟨rfl, hjn⟩ := h1 hlt
      have hij : i < jn := by omega
      have hHk : Sort.Holds encI wr blk off dk := by rw [hwr]; exact Sort.holds_putRow encI _ blk off d dk (Sort.holds_ahead encI w n blk off d hH) hds
      obtain ⟨ci, fi⟩ := hHk i (by omega)
      obtain ⟨cj, fj⟩ := hHk jn (by omega)
      have A := hid' hwr
      clear hwr hHk hH h1 h2
      go_wp2_with fail
      go_region
      go_wp2
      go_roundg (jn - 1 - (i + 1))
      case measure => omega
      case rel =>
        rw [Sort.reverseLoop, if_pos hij] at heq
        exact ⟨i + 1, jn - 1, (jn : Int) - 1, Sort.swp dk i jn, n + 1, by simp, rfl, fun h => ⟨by omega, by omega⟩, fun h => by omega, Nat.le_refl _, by rw [Sort.size_swp]; exact hds,
          swap_world encI (by omega) (by omega) A.out (by first | rfl | simp [encI, getElem!_pos, show jn < dk.size by omega]) (by first | rfl | simp [encI, getElem!_pos, show i < dk.size by omega]), heq⟩
    · have hnot := h2 hlt
      go_wp2
      go_end0
      refine ⟨rfl, n, ?_⟩
      rw [Sort.reverseLoop, if_neg hnot] at heq
      rw [← Lib.reverseLoop_reverse, ← heq]
theorem slices_ReverseI0 (A : Option Addr) (cap : Nat) (w : World) :
    Calls Try.prog 52 #[.slice A 0 cap] w fun e w' => e = .returned (.tuple #[]) ∧ w = w' := by
  go_enter Try.func52, Try.ntmps52
  go_wp2
  go_loop [2, 3] (fun v2 v3 => v2 = .int .i64 0 ∧ v3 = .int .i64 (-1)) (fun _ _ => 0)
  case atStart => exact ⟨rfl, rfl⟩
  case round =>
    obtain ⟨rfl, rfl⟩ := hrel
    go_wp2
    go_end0
    exact ⟨rfl, rfl⟩
theorem slices_ReverseO (base : Nat) (v : Value) (l : List Int) (w : World) (h : w.ownsRow base 3 1 v l.length (l.map (.int .i64))) (hn : l.length ≤ 1000) :
    Calls Try.prog 52 #[v] w fun e w' => e = .returned (.tuple #[]) ∧ w'.ownsRow base 3 1 v l.length (l.reverse.map (.int .i64)) ∧ Mod (fun k => v.ownBlock = some k) w w' := by
  by_cases hv : v = .slice none 0 0
  · subst hv
    have hl : l.length = 0 := by rcases h.2 with ⟨_, h⟩ | ⟨g, _, _, e, _⟩; exact h; cases e
    have hl' : l = [] := List.eq_nil_of_length_eq_zero hl
    subst hl'
    refine (slices_ReverseI0 none 0 w).mono ?_
    rintro e w' ⟨rfl, rfl⟩
    exact ⟨rfl, h, Mod.refl _ _⟩
  · obtain ⟨g, cap, rfl, hb, hlt, _, hcm, _, hH⟩ := Lib.holds_of_ownsRow (enc := Value.int .i64) h hv
    have := slices_ReverseI g 0 cap l.toArray w hH (by simpa using hn)
    rw [List.size_toArray] at this
    refine this.mono ?_
    rintro e w' ⟨rfl, q, rfl⟩
    refine ⟨rfl, ?_, ?_⟩
    · have h1 := Lib.ownsRow_putRow (q := q) (ys := l.reverse) h (by simp) (Nat.le_refl _)
      rw [List.take_of_length_le (by simp)] at h1
      simpa using h1
    · exact ⟨rfl, rfl, rfl, by simp [Sort.putRow, Sort.mapBlock, Sort.ahead], fun k hk hne => by
        have : g ≠ k := fun e => hne (by simp [Value.ownBlock, e])
        simp [Sort.putRow, Sort.mapBlock, Sort.ahead, Array.getElem?_modify, this]⟩
end Go.Proofs.Ytoajlogbdkinkaa
