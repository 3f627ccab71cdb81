
/- A row of bytes in a block, cell by cell. No condition. (As in LawCrcC; not to be imported beside it.) -/
import Derived.Test.YthdblloiapadkaaDoorLawCrc
namespace Go.Proofs.YthdblloiapadkaaDoor
set_option maxRecDepth 100000
set_option linter.unusedSimpArgs false
open Go.RowKit
set_option linter.unusedVariables false
set_option linter.unusedSimpArgs false

/-- A row of bytes in a block, cell by cell. -/
def RowB (w : World) (g : Nat) (ys : List UInt8) : Prop := (∀ j c, ys[j]? = some c → w.cell? ⟨g, j, none⟩ = some (bcell c)) ∧ (∀ j, j < ys.length → w.frozen? ⟨g, j, none⟩ = false) ∧ g < w.heap.size
theorem RowB.drew {w : World} {g : Nat} {ys : List UInt8} (h : RowB w g ys) : RowB w.drew g ys := h
theorem RowB.below {w w' : World} {g : Nat} {ys : List UInt8} (h : RowB w g ys) (m : Below w.heap.size w w') : RowB w' g ys :=
  ⟨fun j c hj => (m.cell (p := ⟨g, j, none⟩) h.2.2).trans (h.1 j c hj), fun j hj => (m.frozen (p := ⟨g, j, none⟩) h.2.2).trans (h.2.1 j hj), Nat.lt_of_lt_of_le h.2.2 m.size⟩
theorem RowB.set {w : World} {g : Nat} {ys : List UInt8} (h : RowB w g ys) (k : Nat) (c d : UInt8) (hc : ys[k]? = some d) : RowB (w.setCell ⟨g, k, none⟩ (bcell c)) g (ys.set k c) := by
  refine ⟨fun j u hj => ?_, fun j hj => by rw [World.frozen?_setCell]; exact h.2.1 j (by simpa using hj), by simpa using h.2.2⟩
  rw [List.getElem?_set] at hj
  by_cases hk : k = j
  · subst hk
    rw [if_pos rfl] at hj
    split at hj
    · simp only [Option.some.injEq] at hj
      subst hj
      exact World.cell?_setCell_same _ _ _ (h.1 k d hc)
    · cases hj
  · rw [if_neg hk] at hj
    rw [World.cell?_setCell_other _ _ _ _ (by intro e; injection e with _ e _; exact hk (by omega))]
    exact h.1 j u hj
theorem RowB.bytes (w : World) (e : TypeId) (s : ByteArray) : RowB (Lib.bytesWorld w e s) w.heap.size (bl s) := by
  have hnew := Lib.bytesWorld_at_new w e s
  refine ⟨fun j c hj => ?_, fun j hj => by
    have hge := grownCap_ge w s.size 0 e
    have hcs : (Lib.bytesCells w e s).size = grownCap w s.size 0 e := by
      unfold Lib.bytesCells
      rw [Array.size_append, Array.size_map, Array.size_replicate]
      have : s.data.size = s.size := rfl
      omega
    rw [bl_len] at hj
    simp only [World.frozen?, hnew]; simp; omega, by rw [Lib.bytesWorld_size]; omega⟩
  have hjl := (List.getElem?_eq_some_iff.1 hj).1
  have hjs : j < s.size := by rw [bl_len] at hjl; exact hjl
  rw [Lib.bytesWorld_cell w e s j hjs]
  have hd : s.data.size = s.size := rfl
  have hc : s.data[j]? = some c := by
    unfold bl at hj
    rwa [Array.getElem?_toList] at hj
  congr 1
  have hjd : j < s.data.size := by omega
  rw [Array.getElem?_eq_getElem hjd] at hc
  simp only [Option.some.injEq] at hc
  subst hc
  simp [bcell, List.getD_eq_getElem?_getD, List.getElem?_eq_getElem, hjd]
  rw [Array.getElem?_eq_getElem hjd]; rfl
theorem RowB.string {P : Program} {w : World} {g : Nat} {ys : List UInt8} (h : RowB w g ys) (n cap : Nat) (hn : n ≤ ys.length) (src dst e : TypeId) (hs : P.underlying src = some (.slice e)) (he : P.underlying e = some (.int .u8)) (hd : P.underlying dst = some .string) :
    (convert src dst (.slice (some ⟨g, 0, none⟩) n cap)).run P w = .ok (.string (strOf (ys.take n))) w := by
  have hstr : strOfNums ((ys.take n).map fun b => (b.toNat : Int)) = strOf (ys.take n) := by
    unfold strOfNums strOf
    rw [List.map_map]
    congr 2
    conv => rhs; rw [← List.map_id (ys.take n)]
    apply List.map_congr_left
    intro b _
    simp
  rw [← hstr]
  refine run_convert_bytes_arg w src e hs he g 0 n cap ((ys.take n).map fun b => (b.toNat : Int)) (by simp; omega) (fun i hi => ?_) dst hd
  rw [Nat.zero_add, h.1 i ys[i] (List.getElem?_eq_getElem (by omega))]
  rw [List.getD_eq_getElem?_getD, List.getElem?_map, List.getElem?_take, if_pos hi, List.getElem?_eq_getElem (by omega)]
  rfl

end Go.Proofs.YthdblloiapadkaaDoor
