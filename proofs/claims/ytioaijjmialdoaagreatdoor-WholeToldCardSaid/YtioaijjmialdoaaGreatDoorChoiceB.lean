
/- Choices in words, in rounds, and their ticks, walked. No condition but the tables and variables of Go's own library. -/
import Derived.Test.YtioaijjmialdoaaGreatDoorChoice
import Derived.Test.YtioaijjmialdoaaGreatDoorCells
import Derived.Test.YtioaijjmialdoaaGreatDoorPackA
namespace Go.Proofs.YtioaijjmialdoaaGreatDoor
set_option maxRecDepth 100000
set_option linter.unusedSimpArgs false
open Go.RowKit
set_option linter.unusedVariables false
set_option linter.unusedSimpArgs false

def lineS (t : Bool) (n : Int) : ByteArray := strOf (lineL t n)
theorem lineS_tick (n : Int) : (⟨#[116, 105, 99, 107, 32]⟩ : ByteArray) ++ numT n = lineS true n := by
  unfold lineS lineL numT
  rw [if_pos rfl, show (⟨#[116, 105, 99, 107, 32]⟩ : ByteArray) = strOf [116, 105, 99, 107, 32] from rfl, strN_app]; rfl
theorem lineS_poll (n : Int) : (⟨#[112, 111, 108, 108, 32]⟩ : ByteArray) ++ numT n = lineS false n := by
  unfold lineS lineL numT
  rw [show (⟨#[112, 111, 108, 108, 32]⟩ : ByteArray) = strOf [112, 111, 108, 108, 32] from rfl, strN_app]; rfl
theorem lineS_size (t : Bool) {n : Int} (h : I64 n) : (lineS t n).size ≤ 26 := by
  have := itoa_len h
  show (lineL t n).length ≤ 26
  unfold lineL
  rw [List.length_append, List.length_cons]
  cases t
  · show 4 + _ ≤ _; omega
  · show 4 + _ ≤ _; omega
/-- so many polls, in rounds of so many -/
def rdC (P m : Nat) : List Value := (List.range m).flatMap fun i => [.bool false, .int .i64 ((i % P : Nat) : Int)]
theorem rdC_succ (P m : Nat) : rdC P (m + 1) = rdC P m ++ [.bool false, .int .i64 ((m % P : Nat) : Int)] := by
  unfold rdC; rw [List.range_succ, List.flatMap_append]; simp
theorem pollOne (j : Nat) : ∀ u ∈ [(.bool false : Value), .int .i64 (j : Int)], u.oneCell' = true := by
  intro u hu; simp at hu; rcases hu with h | h <;> rw [h] <;> rfl
/-- by how much the clock goes on -/
def tkS (s : Int) (c : Bool × Int) : Int := if c.1 = true ∧ 0 < c.2 then min s (9223372036854775807 - c.2) + c.2 else s
def tks (l : List (Bool × Int)) : Int := l.foldl tkS 0
def fCh (c : Bool × Int) : List Value := [.bool c.1, .int .i64 c.2]
theorem tkS_bd {s : Int} {c : Bool × Int} (h0 : 0 ≤ s) (h1 : s ≤ 9223372036854775807) (hc : I64 c.2) : 0 ≤ tkS s c ∧ tkS s c ≤ 9223372036854775807 := by
  unfold I64 at hc
  unfold tkS
  split <;> omega
theorem tks_snoc {l : List (Bool × Int)} {k : Nat} {c : Bool × Int} (h : l[k]? = some c) : tks (l.take (k + 1)) = tkS (tks (l.take k)) c := by
  unfold tks
  rw [List.take_add_one, h]
  simp
theorem tks_bd {l : List (Bool × Int)} (h : ∀ c ∈ l, I64 c.2) : ∀ k, 0 ≤ tks (l.take k) ∧ tks (l.take k) ≤ 9223372036854775807 := by
  intro k
  induction k with
  | zero => simp [tks]
  | succ k ih =>
    cases hk : l[k]? with
    | none => rw [List.take_of_length_le (by have := List.getElem?_eq_none_iff.1 hk; omega)]; rw [List.take_of_length_le (by have := List.getElem?_eq_none_iff.1 hk; omega)] at ih; exact ih
    | some c => rw [tks_snoc hk]; exact tkS_bd ih.1 ih.2 (h c (List.mem_of_getElem? hk))
theorem RdS.at2 {w : World} {A : Option Addr} {l : List (Bool × Int)} (h : RdS w A 2 fCh l) {k : Nat} (hk : k < l.length) :
    ∃ ad t n, A = some ad ∧ l[k]? = some (t, n) ∧ w.cell? (ad.add (k * 2)) = some (.bool t) ∧ w.cell? ⟨(ad.add (k * 2)).block, (ad.add (k * 2)).off + 1, none⟩ = some (.int .i64 n) := by
  obtain ⟨⟨t, n⟩, hx⟩ : ∃ x, l[k]? = some x := ⟨_, List.getElem?_eq_getElem hk⟩
  obtain ⟨ad, hA, hl, hc⟩ := h k (t, n) hx
  exact ⟨ad, t, n, hA, hx, hc 0 _ rfl, hc 1 _ rfl⟩
end Go.Proofs.YtioaijjmialdoaaGreatDoor
