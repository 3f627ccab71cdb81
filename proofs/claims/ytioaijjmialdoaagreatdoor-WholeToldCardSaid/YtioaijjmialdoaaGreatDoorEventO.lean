
/- Events by their types (event.Of, Last, Part), plain data and back (tidewaiterlaw22.Of, Plain, tidy), walked. No condition. -/
import Derived.Test.YtioaijjmialdoaaGreatDoorEventL
namespace Go.Proofs.YtioaijjmialdoaaGreatDoor
set_option maxRecDepth 100000
set_option linter.unusedSimpArgs false
open Go.RowKit
set_option linter.unusedVariables false
set_option linter.unusedSimpArgs false

abbrev El := Int × Int × Int × ByteArray × Bool
def elOf : Ev → List El | .elem p k t x b => [(p, k, t, x, b)] | _ => []
def mkOf : Ev → List Int | .mark a => [a] | _ => []
def ftOf : Ev → List (Int × Int) | .fault p e => [(p, e)] | _ => []
def fEl (x : El) : List Value := [.int .i64 x.1, .int .i64 x.2.1, .int .i64 x.2.2.1, .string x.2.2.2.1, .bool x.2.2.2.2]
def fMk (a : Int) : List Value := [.int .i64 a]
def fFt (x : Int × Int) : List Value := [.int .i64 x.1, .int .i64 x.2]
def elL (l : List Ev) : List El := l.flatMap elOf
def mkL (l : List Ev) : List Int := l.flatMap mkOf
def ftL (l : List Ev) : List (Int × Int) := l.flatMap ftOf
theorem take_fm {α β : Type} {f : α → List β} {l : List α} {k : Nat} {x : α} (h : l[k]? = some x) : (l.take (k + 1)).flatMap f = (l.take k).flatMap f ++ f x := by
  rw [List.take_add_one, h, List.flatMap_append]; simp
theorem elOne (x : El) : ∀ u ∈ fEl x, u.oneCell' = true := by
  intro u hu; unfold fEl at hu; simp at hu; rcases hu with h | h | h | h | h <;> rw [h] <;> rfl
theorem mkOne (x : Int) : ∀ u ∈ fMk x, u.oneCell' = true := by
  intro u hu; unfold fMk at hu; simp at hu; rw [hu]; rfl
theorem ftOne (x : Int × Int) : ∀ u ∈ fFt x, u.oneCell' = true := by
  intro u hu; unfold fFt at hu; simp at hu; rcases hu with h | h <;> rw [h] <;> rfl
theorem elL_len (l : List Ev) : (elL l).length ≤ l.length := by
  induction l with
  | nil => exact Nat.le_refl _
  | cons e l ih => show (elOf e ++ elL l).length ≤ _; rw [List.length_append, List.length_cons]; cases e <;> simp [elOf] <;> omega
theorem mkL_len (l : List Ev) : (mkL l).length ≤ l.length := by
  induction l with
  | nil => exact Nat.le_refl _
  | cons e l ih => show (mkOf e ++ mkL l).length ≤ _; rw [List.length_append, List.length_cons]; cases e <;> simp [mkOf] <;> omega
theorem ftL_len (l : List Ev) : (ftL l).length ≤ l.length := by
  induction l with
  | nil => exact Nat.le_refl _
  | cons e l ih => show (ftOf e ++ ftL l).length ≤ _; rw [List.length_append, List.length_cons]; cases e <;> simp [ftOf] <;> omega
theorem ta_ee (v : Value) (w : World) : (Instr.typeAssert (.iface 42 v) 53 42 true).run Tryz.prog w = .ok (.tuple #[v, .bool true]) w := by kernel_rfl
theorem ta_me (v : Value) (w : World) : (Instr.typeAssert (.iface 79 v) 53 42 true).run Tryz.prog w = .ok (.tuple #[.agg #[.int .i64 0, .int .i64 0, .int .i64 0, .string ⟨#[]⟩, .bool false], .bool false]) w := by kernel_rfl
theorem ta_fe (v : Value) (w : World) : (Instr.typeAssert (.iface 25 v) 53 42 true).run Tryz.prog w = .ok (.tuple #[.agg #[.int .i64 0, .int .i64 0, .int .i64 0, .string ⟨#[]⟩, .bool false], .bool false]) w := by kernel_rfl
theorem ta_em (v : Value) (w : World) : (Instr.typeAssert (.iface 42 v) 53 79 true).run Tryz.prog w = .ok (.tuple #[.agg #[.int .i64 0], .bool false]) w := by kernel_rfl
theorem ta_mm (v : Value) (w : World) : (Instr.typeAssert (.iface 79 v) 53 79 true).run Tryz.prog w = .ok (.tuple #[v, .bool true]) w := by kernel_rfl
theorem ta_fm (v : Value) (w : World) : (Instr.typeAssert (.iface 25 v) 53 79 true).run Tryz.prog w = .ok (.tuple #[.agg #[.int .i64 0], .bool false]) w := by kernel_rfl
theorem ta_ef (v : Value) (w : World) : (Instr.typeAssert (.iface 42 v) 53 25 true).run Tryz.prog w = .ok (.tuple #[.agg #[.int .i64 0, .int .i64 0], .bool false]) w := by kernel_rfl
theorem ta_mf (v : Value) (w : World) : (Instr.typeAssert (.iface 79 v) 53 25 true).run Tryz.prog w = .ok (.tuple #[.agg #[.int .i64 0, .int .i64 0], .bool false]) w := by kernel_rfl
theorem ta_ff (v : Value) (w : World) : (Instr.typeAssert (.iface 25 v) 53 25 true).run Tryz.prog w = .ok (.tuple #[v, .bool true]) w := by kernel_rfl
set_option maxHeartbeats 8000000 in
theorem of_elem (A : Option Addr) (c : Nat) (l : List Ev) (w : World) (hr : Rd w A (l.map evV)) (hl : l.length ≤ 100000) :
    Calls Tryz.prog 16 #[.slice A l.length c] w fun e w' => ∃ v, e = .returned v ∧ w'.ownsRow w.heap.size 42 5 v (elL l).length ((elL l).flatMap fEl) ∧ Below w.heap.size w w' := by
  have t1 := ta_ee
  have t2 := ta_me
  have t3 := ta_fe
  have HR := hid' hr
  have HB0 := hid' (bel_refl w)
  have HO0 := hid' (World.ownsRow_nil w w.heap.size 42 5)
  clear hr
  go_enter Tryz.func16, Tryz.ntmps16
  go_wp2
  go_loopw [3, 10] (fun v3 v10 wr => ∃ k : Nat, k ≤ l.length ∧ v10 = .int .i64 k ∧ wr.ownsRow w.heap.size 42 5 v3 (elL (l.take k)).length ((elL (l.take k)).flatMap fEl) ∧ Below w.heap.size w wr) (fun _ v10 _ => l.length - (intOf v10).toNat)
  case atStart => exact ⟨0, Nat.zero_le _, rfl, by rw [List.take_zero]; exact HO0.out, HB0.out⟩
  case round =>
    obtain ⟨k, hk, rfl, hO, hL⟩ := hrel
    have HO := hid' hO
    have HL := hid' hL
    clear hO
    have hlen := elL_len (l.take k)
    rw [List.length_take] at hlen
    by_cases hlt : k < l.length
    · obtain ⟨ad, x, rfl, hx, hcell⟩ := (HR.out.below hL).at_ hlt
      have HNX := hid' (show elL (l.take (k + 1)) = elL (l.take k) ++ _ from take_fm hx)
      clear hx hL
      cases x with
      | elem p kd t x b =>
        unfold evV at hcell
        simp only at hcell
        have hb2 := bel_alloc HL.out (.cells #[.int .i64 p, .int .i64 kd, .int .i64 t, .string x, .bool b] 42)
        have HB2 := hid' hb2
        have hO2 := hid' (HO.out.alloc (.cells #[.int .i64 p, .int .i64 kd, .int .i64 t, .string x, .bool b] 42))
        have hs3 : (wr.alloc (.cells #[.int .i64 p, .int .i64 kd, .int .i64 t, .string x, .bool b] 42)).heap.size = wr.heap.size + 1 := by simp
        have hbase := hb2.size
        have hone := hid' (elOne (p, kd, t, x, b))
        have hby : ((elL (l.take k)).length + 1) * 48 ≤ 140737488355328 := by omega
        clear hb2
        go_wp2_with (at_builtin; (refine ap_cells w.heap.size rfl (.tmp 20) (.tmp 22) 57 42 (.agg #[.int .i64 0, .int .i64 0, .int .i64 0, .string ⟨#[]⟩, .bool false]) 5 48 rfl (by kernel_rfl) (by kernel_rfl) rfl (by decide) (by decide) u3 (elL (l.take k)).length ((elL (l.take k)).flatMap fEl) [.int .i64 p, .int .i64 kd, .int .i64 t, .string x, .bool b] rfl (by rw [hs3]; rfl) rfl hone.out hO2.out hbase hby ?_); intro v1 w3 hown hg hat)
        go_roundw
        case rel => exact ⟨k + 1, by omega, by go_num, by rw [HNX.out]; simpa [elOf, mkOf, ftOf, fEl, fMk, fFt] using hown, bel_mod HB2.out (Mod.of_grown hg) (fun i hi h => by have := own_base' hO2.out i h; omega)⟩
        case measure => (simp only [intOf]; omega)
      | mark a =>
        unfold evV at hcell
        simp only at hcell
        have HB2 := hid' (bel_alloc HL.out (.cells #[.int .i64 0, .int .i64 0, .int .i64 0, .string ⟨#[]⟩, .bool false] 42))
        go_wp2
        go_roundw
        case rel => exact ⟨k + 1, by omega, by go_num, by rw [HNX.out]; simpa [elOf, mkOf, ftOf] using HO.out.alloc _, HB2.out⟩
        case measure => (simp only [intOf]; omega)
      | fault p e =>
        unfold evV at hcell
        simp only at hcell
        have HB2 := hid' (bel_alloc HL.out (.cells #[.int .i64 0, .int .i64 0, .int .i64 0, .string ⟨#[]⟩, .bool false] 42))
        go_wp2
        go_roundw
        case rel => exact ⟨k + 1, by omega, by go_num, by rw [HNX.out]; simpa [elOf, mkOf, ftOf] using HO.out.alloc _, HB2.out⟩
        case measure => (simp only [intOf]; omega)
    · obtain rfl : k = l.length := by omega
      rw [List.take_length] at HO
      clear hL hlen
      go_wp2
      go_ret
      exact ⟨_, rfl, HO.out, HL.out⟩
set_option maxHeartbeats 8000000 in
theorem of_fault (A : Option Addr) (c : Nat) (l : List Ev) (w : World) (hr : Rd w A (l.map evV)) (hl : l.length ≤ 100000) :
    Calls Tryz.prog 17 #[.slice A l.length c] w fun e w' => ∃ v, e = .returned v ∧ w'.ownsRow w.heap.size 25 2 v (ftL l).length ((ftL l).flatMap fFt) ∧ Below w.heap.size w w' := by
  have t1 := ta_ef
  have t2 := ta_mf
  have t3 := ta_ff
  have HR := hid' hr
  have HB0 := hid' (bel_refl w)
  have HO0 := hid' (World.ownsRow_nil w w.heap.size 25 2)
  clear hr
  go_enter Tryz.func17, Tryz.ntmps17
  go_wp2
  go_loopw [3, 10] (fun v3 v10 wr => ∃ k : Nat, k ≤ l.length ∧ v10 = .int .i64 k ∧ wr.ownsRow w.heap.size 25 2 v3 (ftL (l.take k)).length ((ftL (l.take k)).flatMap fFt) ∧ Below w.heap.size w wr) (fun _ v10 _ => l.length - (intOf v10).toNat)
  case atStart => exact ⟨0, Nat.zero_le _, rfl, by rw [List.take_zero]; exact HO0.out, HB0.out⟩
  case round =>
    obtain ⟨k, hk, rfl, hO, hL⟩ := hrel
    have HO := hid' hO
    have HL := hid' hL
    clear hO
    have hlen := ftL_len (l.take k)
    rw [List.length_take] at hlen
    by_cases hlt : k < l.length
    · obtain ⟨ad, x, rfl, hx, hcell⟩ := (HR.out.below hL).at_ hlt
      have HNX := hid' (show ftL (l.take (k + 1)) = ftL (l.take k) ++ _ from take_fm hx)
      clear hx hL
      cases x with
      | elem p kd t x b =>
        unfold evV at hcell
        simp only at hcell
        have HB2 := hid' (bel_alloc HL.out (.cells #[.int .i64 0, .int .i64 0] 25))
        go_wp2
        go_roundw
        case rel => exact ⟨k + 1, by omega, by go_num, by rw [HNX.out]; simpa [elOf, mkOf, ftOf] using HO.out.alloc _, HB2.out⟩
        case measure => (simp only [intOf]; omega)
      | mark a =>
        unfold evV at hcell
        simp only at hcell
        have HB2 := hid' (bel_alloc HL.out (.cells #[.int .i64 0, .int .i64 0] 25))
        go_wp2
        go_roundw
        case rel => exact ⟨k + 1, by omega, by go_num, by rw [HNX.out]; simpa [elOf, mkOf, ftOf] using HO.out.alloc _, HB2.out⟩
        case measure => (simp only [intOf]; omega)
      | fault p e =>
        unfold evV at hcell
        simp only at hcell
        have hb2 := bel_alloc HL.out (.cells #[.int .i64 p, .int .i64 e] 25)
        have HB2 := hid' hb2
        have hO2 := hid' (HO.out.alloc (.cells #[.int .i64 p, .int .i64 e] 25))
        have hs3 : (wr.alloc (.cells #[.int .i64 p, .int .i64 e] 25)).heap.size = wr.heap.size + 1 := by simp
        have hbase := hb2.size
        have hone := hid' (ftOne (p, e))
        have hby : ((ftL (l.take k)).length + 1) * 16 ≤ 140737488355328 := by omega
        clear hb2
        go_wp2_with (at_builtin; (refine ap_cells w.heap.size rfl (.tmp 20) (.tmp 22) 59 25 (.agg #[.int .i64 0, .int .i64 0]) 2 16 rfl (by kernel_rfl) (by kernel_rfl) rfl (by decide) (by decide) u3 (ftL (l.take k)).length ((ftL (l.take k)).flatMap fFt) [.int .i64 p, .int .i64 e] rfl (by rw [hs3]; rfl) rfl hone.out hO2.out hbase hby ?_); intro v1 w3 hown hg hat)
        go_roundw
        case rel => exact ⟨k + 1, by omega, by go_num, by rw [HNX.out]; simpa [elOf, mkOf, ftOf, fEl, fMk, fFt] using hown, bel_mod HB2.out (Mod.of_grown hg) (fun i hi h => by have := own_base' hO2.out i h; omega)⟩
        case measure => (simp only [intOf]; omega)
    · obtain rfl : k = l.length := by omega
      rw [List.take_length] at HO
      clear hL hlen
      go_wp2
      go_ret
      exact ⟨_, rfl, HO.out, HL.out⟩
/-- of which partition an event is -/
def evPart : Ev → Int | .elem p _ _ _ _ => p | .fault p _ => p | .mark _ => -1
theorem event_Part (e : Ev) (w : World) : Calls Tryz.prog 15 #[evV e] w fun x w' => x = .returned (.int .i64 (evPart e)) ∧ Below w.heap.size w w' := by
  have t1 := ta_ee
  have t2 := ta_me
  have t3 := ta_fe
  have t4 := ta_mf
  have t5 := ta_ff
  cases e with
  | elem p k t x b =>
    have HB := hid' (bel_alloc (bel_refl w) (.cells #[.int .i64 p, .int .i64 k, .int .i64 t, .string x, .bool b] 42))
    unfold evV evPart
    go_enter Tryz.func15, Tryz.ntmps15
    go_wp2
    go_ret
    exact ⟨rfl, HB.out⟩
  | mark a =>
    have HB := hid' (bel_refl w)
    unfold evV evPart
    go_enter Tryz.func15, Tryz.ntmps15
    go_wp2
    go_ret
    exact ⟨rfl, HB.out⟩
  | fault p c =>
    have HB := hid' (bel_alloc (bel_refl w) (.cells #[.int .i64 p, .int .i64 c] 25))
    unfold evV evPart
    go_enter Tryz.func15, Tryz.ntmps15
    go_wp2
    go_ret
    exact ⟨rfl, HB.out⟩
theorem mk_flat (M : List Int) : M.flatMap fMk = M.map (.int .i64) := by
  induction M with
  | nil => rfl
  | cons a M ih => rw [List.flatMap_cons, ih]; rfl
/-- how far time has come by events -/
def evLast (l : List Ev) : Int := (mkL l).getLastD (-9223372036854775808)
end Go.Proofs.YtioaijjmialdoaaGreatDoor
