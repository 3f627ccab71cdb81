
/- Configurations: their checks (config.Check, tidewaiterref19.Check), what a rule goes by (Only), sameness (Same), walked. No condition. -/
import Derived.Test.YtioaijjmialdoaaGreatDoorConfigB
namespace Go.Proofs.YtioaijjmialdoaaGreatDoor
set_option maxRecDepth 100000
set_option linter.unusedSimpArgs false
open Go.RowKit
set_option linter.unusedVariables false
set_option linter.unusedSimpArgs false

def fRl (r : Rl) : List Value := [.int .i64 r.1, .int .i64 r.2.1, .int .i64 r.2.2.1, .int .i64 r.2.2.2.1, .int .i64 r.2.2.2.2]
def rlC (r : Rl) : Int := ruleC r.1 r.2.1 r.2.2.1 r.2.2.2.1 r.2.2.2.2
def firstErr : List Rl → Int
  | [] => 0
  | r :: l => if rlC r = 0 then firstErr l else rlC r
theorem firstErr_at : ∀ {l : List Rl} {k : Nat} {r : Rl}, (∀ j x, j < k → l[j]? = some x → rlC x = 0) → l[k]? = some r → rlC r ≠ 0 → firstErr l = rlC r
  | [], k, r, _, h, _ => by simp at h
  | x :: l, 0, r, _, h, hr => by
    simp at h; subst h
    unfold firstErr; rw [if_neg hr]
  | x :: l, k + 1, r, h0, h, hr => by
    unfold firstErr
    rw [if_pos (h0 0 x (by omega) rfl)]
    exact firstErr_at (k := k) (fun j y hj hy => h0 (j + 1) y (by omega) (by simpa using hy)) (by simpa using h) hr
theorem firstErr_none : ∀ {l : List Rl}, (∀ x ∈ l, rlC x = 0) → firstErr l = 0
  | [], _ => rfl
  | x :: l, h => by
    unfold firstErr
    rw [if_pos (h x (List.mem_cons_self ..))]
    exact firstErr_none (fun y hy => h y (List.mem_cons_of_mem _ hy))
theorem mem_of_all {l : List Rl} {P : Rl → Prop} (h : ∀ j x, j < l.length → l[j]? = some x → P x) : ∀ x ∈ l, P x := by
  intro x hx
  obtain ⟨j, hj, e⟩ := List.mem_iff_getElem.1 hx
  exact h j x hj (by rw [List.getElem?_eq_getElem hj, e])
/-- whether there can be such a source -/
def cfgC (l : List Rl) (t d : Int) : Int := if l.length < 1 ∨ 4096 < l.length then 6 else if t < 1 ∨ d < 0 then 7 else firstErr l
theorem RdS.at5 {w : World} {A : Option Addr} {l : List Rl} (h : RdS w A 5 fRl l) {k : Nat} (hk : k < l.length) :
    ∃ ad a b c d e, A = some ad ∧ l[k]? = some (a, b, c, d, e) ∧ w.cell? (ad.add (k * 5)) = some (.int .i64 a) ∧ w.cell? ⟨(ad.add (k * 5)).block, (ad.add (k * 5)).off + 1, none⟩ = some (.int .i64 b) ∧
      w.cell? ⟨(ad.add (k * 5)).block, (ad.add (k * 5)).off + 2, none⟩ = some (.int .i64 c) ∧ w.cell? ⟨(ad.add (k * 5)).block, (ad.add (k * 5)).off + 3, none⟩ = some (.int .i64 d) ∧ w.cell? ⟨(ad.add (k * 5)).block, (ad.add (k * 5)).off + 4, none⟩ = some (.int .i64 e) := by
  obtain ⟨⟨a, b, c, d, e⟩, hx⟩ : ∃ x, l[k]? = some x := ⟨_, List.getElem?_eq_getElem hk⟩
  obtain ⟨ad, hA, hl, hc⟩ := h k _ hx
  exact ⟨ad, a, b, c, d, e, hA, hx, hc 0 _ rfl, hc 1 _ rfl, hc 2 _ rfl, hc 3 _ rfl, hc 4 _ rfl⟩
end Go.Proofs.YtioaijjmialdoaaGreatDoor
