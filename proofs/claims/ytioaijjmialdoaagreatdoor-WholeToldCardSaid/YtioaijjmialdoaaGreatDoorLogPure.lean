
/- Which records any bytes begin with, step by step: the plain law of the logs. No condition. -/
import Derived.Test.YtioaijjmialdoaaGreatDoorPackV
namespace Go.Proofs.YtioaijjmialdoaaGreatDoor
set_option maxRecDepth 100000
set_option linter.unusedSimpArgs false
open Go.RowKit
set_option linter.unusedVariables false
set_option linter.unusedSimpArgs false

def pStep (s : ByteArray) (st : List Rec × Nat) : List Rec × Nat :=
  if st.2 < s.size then (if (fGet (s.extract st.2 s.size)).2.2 = 0 then (st.1 ++ [(fGet (s.extract st.2 s.size)).1], st.2 + (fGet (s.extract st.2 s.size)).2.1.toNat) else st) else st
/-- The records read after so many steps, and how many bytes they have. -/
def pSt (s : ByteArray) : Nat → List Rec × Nat
  | 0 => ([], 0)
  | k + 1 => pStep s (pSt s k)
def pErr (s : ByteArray) (v : Nat) : Int := if v < s.size then (fGet (s.extract v s.size)).2.2 else 0
/-- There is a further record behind so many bytes. -/
def pLive (s : ByteArray) (v : Nat) : Prop := v < s.size ∧ (fGet (s.extract v s.size)).2.2 = 0
theorem pStep_stay {s : ByteArray} {st : List Rec × Nat} (h : ¬ pLive s st.2) : pStep s st = st := by
  unfold pStep
  split
  · rename_i h1
    rw [if_neg (fun h2 => h ⟨h1, h2⟩)]
  · rfl
theorem pStep_live {s : ByteArray} {st : List Rec × Nat} (h : pLive s st.2) (hs : s.size ≤ 1000000) : ∃ r n, fGet (s.extract st.2 s.size) = (r, ((n : Nat) : Int), 0) ∧ 0 < n ∧ st.2 + n ≤ s.size ∧ pStep s st = (st.1 ++ [r], st.2 + n) ∧ fFull r = s.extract st.2 (st.2 + n) ∧ fCheck r = 0 ∧ I64 r.2.1 := by
  obtain ⟨h1, h2⟩ := h
  obtain ⟨⟨r, z, e⟩, hq⟩ : ∃ q, q = fGet (s.extract st.2 s.size) := ⟨_, rfl⟩
  rw [← hq] at h2
  have h2 : e = 0 := h2
  subst h2
  obtain ⟨k, rfl, hk, hf, hc, hI, h0⟩ := fGet_one hq.symm (by rw [ByteArray.size_extract]; omega)
  rw [ByteArray.size_extract] at hk
  refine ⟨r, k, hq.symm, h0, by omega, ?_, ?_, hc, hI⟩
  · unfold pStep
    rw [if_pos h1, ← hq, if_pos rfl]
    simp
  · rw [hf]
    apply bl_inj
    rw [bl_ext, bl_ext, bl_ext, List.drop_zero, Nat.sub_zero, List.take_take]
    congr 1
    omega
theorem pSt_le (s : ByteArray) (hs : s.size ≤ 1000000) : ∀ k, (pSt s k).2 ≤ s.size := by
  intro k
  induction k with
  | zero => exact Nat.zero_le _
  | succ k ih =>
    unfold pSt
    by_cases h : pLive s (pSt s k).2
    · obtain ⟨r, n, _, _, h1, h2, _⟩ := pStep_live h hs
      rw [h2]; exact h1
    · rw [pStep_stay h]; exact ih
theorem pSt_stay {s : ByteArray} {k : Nat} (h : ¬ pLive s (pSt s k).2) : ∀ j, pSt s (k + j) = pSt s k := by
  intro j
  induction j with
  | zero => rfl
  | succ j ih =>
    show pStep s (pSt s (k + j)) = _
    rw [ih, pStep_stay h]
theorem pSt_one {s : ByteArray} {k j : Nat} (h : ¬ pLive s (pSt s k).2) (h' : ¬ pLive s (pSt s j).2) : pSt s k = pSt s j := by
  by_cases hle : k ≤ j
  · have := pSt_stay h (j - k)
    rw [show k + (j - k) = j by omega] at this
    exact this.symm
  · have := pSt_stay h' (k - j)
    rw [show j + (k - j) = k by omega] at this
    exact this
theorem pErr_end {s : ByteArray} {v : Nat} (hv : v ≤ s.size) (h : ¬ pLive s v) : (pErr s v = 0 ∧ v = s.size) ∨ (pErr s v ≠ 0 ∧ v < s.size) := by
  unfold pErr
  by_cases h1 : v < s.size
  · rw [if_pos h1]; exact .inr ⟨fun h2 => h ⟨h1, h2⟩, h1⟩
  · rw [if_neg h1]; exact .inl ⟨rfl, by omega⟩
end Go.Proofs.YtioaijjmialdoaaGreatDoor
