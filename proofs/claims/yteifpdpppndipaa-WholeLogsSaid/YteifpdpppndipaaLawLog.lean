
/- What the package log says of itself; which records any bytes begin with: the law, walked. No condition. -/
import Derived.Test.YteifpdpppndipaaLogBuild
import Derived.Test.YteifpdpppndipaaRefLog
import Derived.Test.YteifpdpppndipaaOpen
namespace Go.Proofs.Yteifpdpppndipaa
set_option maxRecDepth 100000
set_option linter.unusedSimpArgs false
open Go.RowKit
set_option linter.unusedVariables false
set_option linter.unusedSimpArgs false

theorem rOk_text {r : Rec} (h : rOk r) : r.2.2.size ≤ 65536 := by
  have h3 : (recBody r).size ≤ 65536 := by
    have hc := h.1
    unfold fCheck at hc
    split at hc
    · split at hc
      · cases hc
      · omega
    · cases hc
  have := recBody_size r
  omega
theorem sp06 : rOk (1, 4, ⟨#[]⟩) ∧ (bCat [(1, 4, ⟨#[]⟩)]).size = 7 := by
  have hI : I64 (1, 4, (⟨#[]⟩ : ByteArray)).2.1 := by show I64 4; unfold I64; decide
  have hv : (vput (vfold 4)).length = 1 := by rw [show vfold 4 = 8 from rfl, vput_lt (by decide)]; rfl
  have hb : (recBody (1, 4, ⟨#[]⟩)).size = 2 := by rw [recBody_size]; show 1 + (vput (vfold 4)).length + 0 = 2; omega
  have hc : fCheck (1, 4, ⟨#[]⟩) = 0 := by unfold fCheck; rw [if_pos (by rfl), if_neg (by omega)]
  refine ⟨⟨hc, hI⟩, ?_⟩
  show (fFull (1, 4, ⟨#[]⟩) ++ ⟨#[]⟩).size = 7
  rw [size_app, fFull_size, hb, vput_lt (by decide)]
  rfl
theorem sp06_err (S : ByteArray) (v : Nat) (h : v = S.size) : pErr (S ++ ⟨#[9]⟩) v = 1 ∧ ¬ pLive (S ++ ⟨#[9]⟩) v := by
  subst h
  have hg : fGet ⟨#[9]⟩ = (zRec, 0, 1) := by
    unfold fGet
    rw [show vget (bl ⟨#[9]⟩) = (9, 1, 0) from by decide]
    rfl
  have he : (⟨#[9]⟩ : ByteArray).extract 0 (⟨#[9]⟩ : ByteArray).size = ⟨#[9]⟩ := bl_inj (by rw [bl_ext]; rfl)
  have h1 := pErr_shift S ⟨#[9]⟩ 0
  have h2 := pLive_shift S ⟨#[9]⟩ 0
  rw [Nat.add_zero] at h1 h2
  rw [h1, h2]
  refine ⟨?_, fun h => ?_⟩
  · unfold pErr; rw [if_pos (by decide), he, hg]
  · have := h.2; rw [he, hg] at this; cases this
theorem one_lens {s : ByteArray} {k j : Nat} (h : ¬ pLive s (pSt s k).2) (h' : ¬ pLive s (pSt s j).2) (hk : (pSt s k).1.length = k) (hj : (pSt s j).1.length = j) : k = j := by
  have := pSt_one h h'
  rw [← hk, ← hj, this]
theorem recV_cells (r : Rec) : recV r = .agg (fRec r).toArray := rfl
/-- A literal row of one record, just made. -/
theorem rds_new1 (w : World) (r : Rec) : RdS (w.alloc (.cells #[.int .i64 r.1, .int .i64 r.2.1, .string r.2.2] 40)) (some ⟨w.heap.size, 0, none⟩) 3 fRec [r] := by
  apply rd_recS
  exact Blk.rd (Blk.new_ w 40 _) rfl
end Go.Proofs.Yteifpdpppndipaa
