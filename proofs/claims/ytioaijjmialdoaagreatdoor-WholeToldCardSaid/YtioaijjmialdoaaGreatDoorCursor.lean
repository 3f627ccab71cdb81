
/- A cursor that goes along a log, walked. No condition. -/
import Derived.Test.YtioaijjmialdoaaGreatDoorPackV
namespace Go.Proofs.YtioaijjmialdoaaGreatDoor
set_option maxRecDepth 100000
set_option linter.unusedSimpArgs false
open Go.RowKit
set_option linter.unusedVariables false
set_option linter.unusedSimpArgs false

def zR0 : Rec := (0, 0, ⟨#[]⟩)
def cLook (s : ByteArray) (at_ : Nat) : Rec × Int × Int := if at_ < s.size then fGet (s.extract at_ s.size) else (zR0, 0, 0)
def curC (s : ByteArray) (at_ cnt : Nat) (q : Rec × Int × Int) : Array Value :=
  #[.string s, .int .i64 (at_ : Int), .int .i64 (cnt : Int), .int .i64 q.1.1, .int .i64 q.1.2.1, .string q.1.2.2, .int .i64 q.2.1, .int .i64 q.2.2, .func (.func 18) #[] #[]]
theorem mset {w W : World} {g i : Nat} {u : Value} (h : Mod (fun k => k = g) w W) : Mod (fun k => k = g) w (W.setCell ⟨g, i, none⟩ u) := h.setCell (fun _ => rfl) u
set_option maxHeartbeats 4000000 in
theorem cursor_look (g : Nat) (s : ByteArray) (at_ cnt : Nat) (q : Rec × Int × Int) (w : World) (h : Blk w g 64 (curC s at_ cnt q)) (hs : s.size ≤ 200000) :
    Calls Tryz.prog 19 #[.pointer (some ⟨g, 0, none⟩)] w fun e w' => e = .returned (.tuple #[]) ∧ Blk w' g 64 (curC s at_ cnt (cLook s at_)) ∧ Mod (fun k => k = g) w w' := by
  have hs' : s.size ≤ 9223372036854775807 := by omega
  obtain ⟨⟨k0, t0, x0⟩, z0, e0⟩ := q
  obtain ⟨⟨⟨k, t, x⟩, z, er⟩, hq⟩ : ∃ q, q = cLook s at_ := ⟨_, rfl⟩
  rw [← hq]
  have HK := hid' h
  clear h
  have c0 : w.cell? ⟨g, 0, none⟩ = some (.string s) := by simpa [curC, zR0] using HK.out.cell 0
  have c1 : w.cell? ⟨g, 1, none⟩ = some (.int .i64 (at_ : Int)) := by simpa [curC, zR0] using HK.out.cell 1
  have c2 : w.cell? ⟨g, 2, none⟩ = some (.int .i64 (cnt : Int)) := by simpa [curC, zR0] using HK.out.cell 2
  have c3 : w.cell? ⟨g, 3, none⟩ = some (.int .i64 k0) := by simpa [curC, zR0] using HK.out.cell 3
  have c4 : w.cell? ⟨g, 4, none⟩ = some (.int .i64 t0) := by simpa [curC, zR0] using HK.out.cell 4
  have c5 : w.cell? ⟨g, 5, none⟩ = some (.string x0) := by simpa [curC, zR0] using HK.out.cell 5
  have c6 : w.cell? ⟨g, 6, none⟩ = some (.int .i64 z0) := by simpa [curC, zR0] using HK.out.cell 6
  have c7 : w.cell? ⟨g, 7, none⟩ = some (.int .i64 e0) := by simpa [curC, zR0] using HK.out.cell 7
  have c8 : w.cell? ⟨g, 8, none⟩ = some (.func (.func 18) #[] #[]) := by simpa [curC, zR0] using HK.out.cell 8
  have f3 := HK.out.frozen 3
  have f4 := HK.out.frozen 4
  have f5 := HK.out.frozen 5
  have f6 := HK.out.frozen 6
  have f7 := HK.out.frozen 7
  have HM0 := hid' (Mod.refl (fun k => k = g) w)
  have hlt := HK.out.lt
  go_enter Tryz.func19, Tryz.ntmps19
  go_wp2
  have hK1 := (((((HK.out.set 3 (.int .i64 0)).set 4 (.int .i64 0)).set 5 (.string ⟨#[]⟩)).set 6 (.int .i64 0)).set 7 (.int .i64 0))
  have m1 := (Mod.refl (fun k => k = g) w).setCell (p := ⟨g, 3, none⟩) (fun _ => rfl) (.int .i64 0)
  have m2 := m1.setCell (p := ⟨g, 4, none⟩) (fun _ => rfl) (.int .i64 0)
  have m3 := m2.setCell (p := ⟨g, 5, none⟩) (fun _ => rfl) (.string ⟨#[]⟩)
  have m4 := m3.setCell (p := ⟨g, 6, none⟩) (fun _ => rfl) (.int .i64 0)
  have hM1 := m4.setCell (p := ⟨g, 7, none⟩) (fun _ => rfl) (.int .i64 0)
  clear m1 m2 m3 m4
  generalize (((((w.setCell ⟨g, 3, none⟩ (.int .i64 0)).setCell ⟨g, 4, none⟩ (.int .i64 0)).setCell ⟨g, 5, none⟩ (.string ⟨#[]⟩)).setCell ⟨g, 6, none⟩ (.int .i64 0)).setCell ⟨g, 7, none⟩ (.int .i64 0)) = w1 at *
  have HK1 := hid' (show Blk w1 g 64 (curC s at_ cnt (zR0, 0, 0)) from hK1)
  have HM1 := hid' hM1
  clear hK1 hM1 c0 c1 c2 c3 c4 c5 c6 c7 c8 f3 f4 f5 f6 f7
  have c0 : w1.cell? ⟨g, 0, none⟩ = some (.string s) := by simpa [curC, zR0] using HK1.out.cell 0
  have c1 : w1.cell? ⟨g, 1, none⟩ = some (.int .i64 (at_ : Int)) := by simpa [curC, zR0] using HK1.out.cell 1
  have c2 : w1.cell? ⟨g, 2, none⟩ = some (.int .i64 (cnt : Int)) := by simpa [curC, zR0] using HK1.out.cell 2
  have c3 : w1.cell? ⟨g, 3, none⟩ = some (.int .i64 0) := by simpa [curC, zR0] using HK1.out.cell 3
  have c4 : w1.cell? ⟨g, 4, none⟩ = some (.int .i64 0) := by simpa [curC, zR0] using HK1.out.cell 4
  have c5 : w1.cell? ⟨g, 5, none⟩ = some (.string ⟨#[]⟩) := by simpa [curC, zR0] using HK1.out.cell 5
  have c6 : w1.cell? ⟨g, 6, none⟩ = some (.int .i64 0) := by simpa [curC, zR0] using HK1.out.cell 6
  have c7 : w1.cell? ⟨g, 7, none⟩ = some (.int .i64 0) := by simpa [curC, zR0] using HK1.out.cell 7
  have c8 : w1.cell? ⟨g, 8, none⟩ = some (.func (.func 18) #[] #[]) := by simpa [curC, zR0] using HK1.out.cell 8
  have f3 := HK1.out.frozen 3
  have f4 := HK1.out.frozen 4
  have f5 := HK1.out.frozen 5
  have f6 := HK1.out.frozen 6
  have f7 := HK1.out.frozen 7
  by_cases hlt : at_ < s.size
  · have e1 : decide ((at_ : Int) < (s.size : Int)) = true := by rw [decide_eq_true_iff]; omega
    unfold cLook at hq
    rw [if_pos hlt] at hq
    have HG := hid' (fun w => frame_Get (s.extract at_ s.size) w (by rw [ByteArray.size_extract]; omega))
    rw [← hq] at HG
    unfold recV at HG
    simp only at HG
    clear hq
    have j1 : (at_ : Int) ≤ (s.size : Int) := by omega
    go_region
    go_wp2
    go_region_with (
      go_at_call 18; refine (HG.out _).mono ?_; rintro e w5 ⟨rfl, hB5⟩
      have HK5 := hid' (show Blk w5 g 64 (curC s at_ cnt (zR0, 0, 0)) from by first | exact Blk.below HK1.out hB5 | exact Blk.below HK1.out.drew.drew hB5 | exact Blk.below HK1.out.drew hB5 | exact Blk.below (HK1.out.drewN _) hB5)
      have hM5 := hid' (show Mod (fun k => k = g) w w5 from by first | exact HM1.out.trans (Mod.of_below hB5) | exact HM1.out.drew.drew.trans (Mod.of_below hB5) | exact HM1.out.drew.trans (Mod.of_below hB5) | exact (HM1.out.drewN _).trans (Mod.of_below hB5))
      have c0 : w5.cell? ⟨g, 0, none⟩ = some (.string s) := by simpa [curC, zR0] using HK5.out.cell 0
      have c1 : w5.cell? ⟨g, 1, none⟩ = some (.int .i64 (at_ : Int)) := by simpa [curC, zR0] using HK5.out.cell 1
      have c2 : w5.cell? ⟨g, 2, none⟩ = some (.int .i64 (cnt : Int)) := by simpa [curC, zR0] using HK5.out.cell 2
      have c3 : w5.cell? ⟨g, 3, none⟩ = some (.int .i64 0) := by simpa [curC, zR0] using HK5.out.cell 3
      have c4 : w5.cell? ⟨g, 4, none⟩ = some (.int .i64 0) := by simpa [curC, zR0] using HK5.out.cell 4
      have c5 : w5.cell? ⟨g, 5, none⟩ = some (.string ⟨#[]⟩) := by simpa [curC, zR0] using HK5.out.cell 5
      have c6 : w5.cell? ⟨g, 6, none⟩ = some (.int .i64 0) := by simpa [curC, zR0] using HK5.out.cell 6
      have c7 : w5.cell? ⟨g, 7, none⟩ = some (.int .i64 0) := by simpa [curC, zR0] using HK5.out.cell 7
      have c8 : w5.cell? ⟨g, 8, none⟩ = some (.func (.func 18) #[] #[]) := by simpa [curC, zR0] using HK5.out.cell 8
      have f3 := HK5.out.frozen 3
      have f4 := HK5.out.frozen 4
      have f5 := HK5.out.frozen 5
      have f6 := HK5.out.frozen 6
      have f7 := HK5.out.frozen 7
      clear hB5)
    all_goals
      go_wp2
      go_end0
      refine ⟨rfl, ?_, ?_⟩
      · first | exact (((((HK5.out.set 3 (.int .i64 k)).set 4 (.int .i64 t)).set 5 (.string x)).set 6 (.int .i64 z)).set 7 (.int .i64 er)) | exact (((((HK5.out.set 3 (.int .i64 k)).set 4 (.int .i64 t)).set 5 (.string x)).set 7 (.int .i64 er)).set 6 (.int .i64 z)) | exact (((((HK5.out.set 6 (.int .i64 z)).set 3 (.int .i64 k)).set 4 (.int .i64 t)).set 5 (.string x)).set 7 (.int .i64 er)) | exact (((((HK5.out.set 6 (.int .i64 z)).set 7 (.int .i64 er)).set 3 (.int .i64 k)).set 4 (.int .i64 t)).set 5 (.string x)) | exact (((((HK5.out.set 7 (.int .i64 er)).set 3 (.int .i64 k)).set 4 (.int .i64 t)).set 5 (.string x)).set 6 (.int .i64 z)) | exact (((((HK5.out.set 7 (.int .i64 er)).set 6 (.int .i64 z)).set 3 (.int .i64 k)).set 4 (.int .i64 t)).set 5 (.string x))
      · exact mset (mset (mset (mset (mset hM5.out))))
  · have e1 : decide ((at_ : Int) < (s.size : Int)) = false := by rw [decide_eq_false_iff_not]; omega
    unfold cLook at hq
    rw [if_neg hlt] at hq
    injection hq with h1 h2
    injection h1 with h1 h3
    injection h3 with h3 h4
    injection h2 with h2 h5
    subst h1 h2 h3 h4 h5
    go_region
    all_goals
      go_wp2
      go_end0
      exact ⟨rfl, HK1.out.drew, HM1.out.drew⟩
end Go.Proofs.YtioaijjmialdoaaGreatDoor
