
/- Numbers in words (tidewaiterref19.Num, config.Numbers), walked. No condition but the tables and variables of Go's own library. -/
import Derived.Test.YtioaijjmialdoaaGreatDoorNumPure
import Derived.Test.YtioaijjmialdoaaGreatDoorPackQ
import Derived.Test.YtioaijjmialdoaaGreatDoorTabsQ
import Derived.Test.YtioaijjmialdoaaGreatDoorShelf
namespace Go.Proofs.YtioaijjmialdoaaGreatDoor
set_option maxRecDepth 100000
set_option linter.unusedSimpArgs false
open Go.RowKit
set_option linter.unusedVariables false
set_option linter.unusedSimpArgs false

def numT (n : Int) : ByteArray := strOf (Lib.itoa n)
theorem numT_size {n : Int} (h : I64 n) : (numT n).size ≤ 21 := itoa_len h
theorem strN_app (a b : List UInt8) : strOf a ++ strOf b = strOf (a ++ b) := by
  unfold strOf; apply ByteArray.ext; rw [ByteArray.data_append]; simp
theorem below_growN (w : World) (k : Nat) (os : Array Obj) : Below w.heap.size w (Go.Sort.grow (w.drewN k) os) :=
  ⟨rfl, rfl, rfl, by show w.heap.size ≤ (w.heap ++ os).size; simp, fun i hi => by
    show (w.heap ++ os)[i]? = _
    exact Array.getElem?_append_left hi⟩
theorem itoaW (n : Int) (w : World) (h : I64 n) (hP : PowT w) : Calls Tryz.prog 40 #[.int .i64 n] w fun e w' => e = .returned (.string (numT n)) ∧ Below w.heap.size w w' :=
  (Tryz.strconv_Itoa n h.1 h.2 w hP).mono fun e w' ⟨he, k, os, hw⟩ => ⟨he, by rw [hw]; exact below_growN w k os⟩
/-- strconv.Atoi: the number, or an error. -/
theorem atoiW (s : ByteArray) (w : World) (hs : s.size ≤ 200000) (hE : ErV w) :
    Calls Tryz.prog 39 #[.string s] w fun e w' => ((∃ v, Lib.atoiAll (bL s) = .ok v ∧ e = .returned (.tuple #[.int .i64 v, .nilIface])) ∨ ((∀ v, Lib.atoiAll (bL s) ≠ .ok v) ∧ ∃ v t p, e = .returned (.tuple #[.int .i64 v, .iface t p]))) ∧ Below w.heap.size w w' := by
  obtain ⟨⟨t1, p1, h1⟩, t2, p2, h2⟩ := hE
  have hlim : s.size ≤ 281474976710656 := by omega
  rcases h : Lib.atoiAll (bL s) with v | _ | _
  · refine (Tryz.strconv_Atoi_ok s (by omega) v h w).mono fun e w' ⟨he, hw⟩ => ⟨.inl ⟨v, rfl, he⟩, ?_⟩
    rcases hw with rfl | ⟨t, rfl⟩
    · exact bel_refl _
    · exact bytesWorld_below w 5 t
  · exact (Any.strconv_Atoi_syntax_var Tryz.laysC172 s hlim h t1 p1 w h1).mono fun e w' ⟨N, he, _, _, hb⟩ => ⟨.inr ⟨fun v hv => (by cases hv), _, _, _, he⟩, hb⟩
  · exact (Any.strconv_Atoi_range_var Tryz.laysC172 s hlim h t2 p2 w h2).mono fun e w' ⟨N, he, _, _, hb⟩ => ⟨.inr ⟨fun v hv => (by cases hv), _, _, _, he⟩, hb⟩
end Go.Proofs.YtioaijjmialdoaaGreatDoor
