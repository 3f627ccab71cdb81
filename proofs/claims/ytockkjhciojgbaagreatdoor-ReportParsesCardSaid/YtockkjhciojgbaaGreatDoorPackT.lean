/- Several texts as one. No condition beyond each one's own. -/
import Derived.Test.YtockkjhciojgbaaGreatDoorPackV
/- Cursor -/
/- A cursor that goes along a log, walked. No condition. -/
namespace Go.Proofs.YtockkjhciojgbaaGreatDoor
set_option maxRecDepth 100000
set_option linter.unusedSimpArgs false
open Go.RowKit
set_option linter.unusedVariables false
set_option linter.unusedSimpArgs false

def zR0 : Rec := (0, 0, ⟨#[]⟩)
def cLook (s : ByteArray) (at_ : Nat) : Rec × Int × Int := if at_ < s.size then fGet (s.extract at_ s.size) else (zR0, 0, 0)
def curC (s : ByteArray) (at_ cnt : Nat) (q : Rec × Int × Int) : Array Value :=
  #[.string s, .int .i64 (at_ : Int), .int .i64 (cnt : Int), .int .i64 q.1.1, .int .i64 q.1.2.1, .string q.1.2.2, .int .i64 q.2.1, .int .i64 q.2.2, .func (.func 86) #[] #[]]
theorem mset {w W : World} {g i : Nat} {u : Value} (h : Mod (fun k => k = g) w W) : Mod (fun k => k = g) w (W.setCell ⟨g, i, none⟩ u) := h.setCell (fun _ => rfl) u
set_option maxHeartbeats 4000000 in
theorem cursor_look (g : Nat) (s : ByteArray) (at_ cnt : Nat) (q : Rec × Int × Int) (w : World) (h : Blk w g 145 (curC s at_ cnt q)) (hs : s.size ≤ 200000) :
    Calls Tryz.prog 87 #[.pointer (some ⟨g, 0, none⟩)] w fun e w' => e = .returned (.tuple #[]) ∧ Blk w' g 145 (curC s at_ cnt (cLook s at_)) ∧ Mod (fun k => k = g) w w' := by
  have hs' : s.size ≤ 9223372036854775807 := by omega
  obtain ⟨⟨k0, t0, x0⟩, z0, e0⟩ := q
  obtain ⟨⟨⟨k, t, x⟩, z, er⟩, hq⟩ : ∃ q, q = cLook s at_ := ⟨_, rfl⟩
  rw [← hq]
  have HK := hid' h
  clear h
  have c0 : w.cell? ⟨g, 0, none⟩ = some (.string s) := by simpa [curC, zR0] using HK.out.cell 0
  have c1 : w.cell? ⟨g, 1, none⟩ = some (.int .i64 (at_ : Int)) := by simpa [curC, zR0] using HK.out.cell 1
  have c2 : w.cell? ⟨g, 2, none⟩ = some (.int .i64 (cnt : Int)) := by simpa [curC, zR0] using HK.out.cell 2
  have c3 : w.cell? ⟨g, 3, none⟩ = some (.int .i64 k0) := by simpa [curC, zR0] using HK.out.cell 3
  have c4 : w.cell? ⟨g, 4, none⟩ = some (.int .i64 t0) := by simpa [curC, zR0] using HK.out.cell 4
  have c5 : w.cell? ⟨g, 5, none⟩ = some (.string x0) := by simpa [curC, zR0] using HK.out.cell 5
  have c6 : w.cell? ⟨g, 6, none⟩ = some (.int .i64 z0) := by simpa [curC, zR0] using HK.out.cell 6
  have c7 : w.cell? ⟨g, 7, none⟩ = some (.int .i64 e0) := by simpa [curC, zR0] using HK.out.cell 7
  have c8 : w.cell? ⟨g, 8, none⟩ = some (.func (.func 86) #[] #[]) := by simpa [curC, zR0] using HK.out.cell 8
  have f3 := HK.out.frozen 3
  have f4 := HK.out.frozen 4
  have f5 := HK.out.frozen 5
  have f6 := HK.out.frozen 6
  have f7 := HK.out.frozen 7
  have HM0 := hid' (Mod.refl (fun k => k = g) w)
  have hlt := HK.out.lt
  go_enter Tryz.func87, Tryz.ntmps87
  go_wp2
  have hK1 := (((((HK.out.set 3 (.int .i64 0)).set 4 (.int .i64 0)).set 5 (.string ⟨#[]⟩)).set 6 (.int .i64 0)).set 7 (.int .i64 0))
  have m1 := (Mod.refl (fun k => k = g) w).setCell (p := ⟨g, 3, none⟩) (fun _ => rfl) (.int .i64 0)
  have m2 := m1.setCell (p := ⟨g, 4, none⟩) (fun _ => rfl) (.int .i64 0)
  have m3 := m2.setCell (p := ⟨g, 5, none⟩) (fun _ => rfl) (.string ⟨#[]⟩)
  have m4 := m3.setCell (p := ⟨g, 6, none⟩) (fun _ => rfl) (.int .i64 0)
  have hM1 := m4.setCell (p := ⟨g, 7, none⟩) (fun _ => rfl) (.int .i64 0)
  clear m1 m2 m3 m4
  generalize (((((w.setCell ⟨g, 3, none⟩ (.int .i64 0)).setCell ⟨g, 4, none⟩ (.int .i64 0)).setCell ⟨g, 5, none⟩ (.string ⟨#[]⟩)).setCell ⟨g, 6, none⟩ (.int .i64 0)).setCell ⟨g, 7, none⟩ (.int .i64 0)) = w1 at *
  have HK1 := hid' (show Blk w1 g 145 (curC s at_ cnt (zR0, 0, 0)) from hK1)
  have HM1 := hid' hM1
  clear hK1 hM1 c0 c1 c2 c3 c4 c5 c6 c7 c8 f3 f4 f5 f6 f7
  have c0 : w1.cell? ⟨g, 0, none⟩ = some (.string s) := by simpa [curC, zR0] using HK1.out.cell 0
  have c1 : w1.cell? ⟨g, 1, none⟩ = some (.int .i64 (at_ : Int)) := by simpa [curC, zR0] using HK1.out.cell 1
  have c2 : w1.cell? ⟨g, 2, none⟩ = some (.int .i64 (cnt : Int)) := by simpa [curC, zR0] using HK1.out.cell 2
  have c3 : w1.cell? ⟨g, 3, none⟩ = some (.int .i64 0) := by simpa [curC, zR0] using HK1.out.cell 3
  have c4 : w1.cell? ⟨g, 4, none⟩ = some (.int .i64 0) := by simpa [curC, zR0] using HK1.out.cell 4
  have c5 : w1.cell? ⟨g, 5, none⟩ = some (.string ⟨#[]⟩) := by simpa [curC, zR0] using HK1.out.cell 5
  have c6 : w1.cell? ⟨g, 6, none⟩ = some (.int .i64 0) := by simpa [curC, zR0] using HK1.out.cell 6
  have c7 : w1.cell? ⟨g, 7, none⟩ = some (.int .i64 0) := by simpa [curC, zR0] using HK1.out.cell 7
  have c8 : w1.cell? ⟨g, 8, none⟩ = some (.func (.func 86) #[] #[]) := by simpa [curC, zR0] using HK1.out.cell 8
  have f3 := HK1.out.frozen 3
  have f4 := HK1.out.frozen 4
  have f5 := HK1.out.frozen 5
  have f6 := HK1.out.frozen 6
  have f7 := HK1.out.frozen 7
  by_cases hlt : at_ < s.size
  · have e1 : decide ((at_ : Int) < (s.size : Int)) = true := by rw [decide_eq_true_iff]; omega
    unfold cLook at hq
    rw [if_pos hlt] at hq
    have HG := hid' (fun w => frame_Get (s.extract at_ s.size) w (by rw [ByteArray.size_extract]; omega))
    rw [← hq] at HG
    unfold recV at HG
    simp only at HG
    clear hq
    have j1 : (at_ : Int) ≤ (s.size : Int) := by omega
    go_region
    go_wp2
    go_region_with (
      go_at_call 86; refine (HG.out _).mono ?_; rintro e w5 ⟨rfl, hB5⟩
      have HK5 := hid' (show Blk w5 g 145 (curC s at_ cnt (zR0, 0, 0)) from by first | exact Blk.below HK1.out hB5 | exact Blk.below HK1.out.drew.drew hB5 | exact Blk.below HK1.out.drew hB5 | exact Blk.below (HK1.out.drewN _) hB5)
      have hM5 := hid' (show Mod (fun k => k = g) w w5 from by first | exact HM1.out.trans (Mod.of_below hB5) | exact HM1.out.drew.drew.trans (Mod.of_below hB5) | exact HM1.out.drew.trans (Mod.of_below hB5) | exact (HM1.out.drewN _).trans (Mod.of_below hB5))
      have c0 : w5.cell? ⟨g, 0, none⟩ = some (.string s) := by simpa [curC, zR0] using HK5.out.cell 0
      have c1 : w5.cell? ⟨g, 1, none⟩ = some (.int .i64 (at_ : Int)) := by simpa [curC, zR0] using HK5.out.cell 1
      have c2 : w5.cell? ⟨g, 2, none⟩ = some (.int .i64 (cnt : Int)) := by simpa [curC, zR0] using HK5.out.cell 2
      have c3 : w5.cell? ⟨g, 3, none⟩ = some (.int .i64 0) := by simpa [curC, zR0] using HK5.out.cell 3
      have c4 : w5.cell? ⟨g, 4, none⟩ = some (.int .i64 0) := by simpa [curC, zR0] using HK5.out.cell 4
      have c5 : w5.cell? ⟨g, 5, none⟩ = some (.string ⟨#[]⟩) := by simpa [curC, zR0] using HK5.out.cell 5
      have c6 : w5.cell? ⟨g, 6, none⟩ = some (.int .i64 0) := by simpa [curC, zR0] using HK5.out.cell 6
      have c7 : w5.cell? ⟨g, 7, none⟩ = some (.int .i64 0) := by simpa [curC, zR0] using HK5.out.cell 7
      have c8 : w5.cell? ⟨g, 8, none⟩ = some (.func (.func 86) #[] #[]) := by simpa [curC, zR0] using HK5.out.cell 8
      have f3 := HK5.out.frozen 3
      have f4 := HK5.out.frozen 4
      have f5 := HK5.out.frozen 5
      have f6 := HK5.out.frozen 6
      have f7 := HK5.out.frozen 7
      clear hB5)
    all_goals
      go_wp2
      go_end0
      refine ⟨rfl, ?_, ?_⟩
      · first | exact (((((HK5.out.set 3 (.int .i64 k)).set 4 (.int .i64 t)).set 5 (.string x)).set 6 (.int .i64 z)).set 7 (.int .i64 er)) | exact (((((HK5.out.set 3 (.int .i64 k)).set 4 (.int .i64 t)).set 5 (.string x)).set 7 (.int .i64 er)).set 6 (.int .i64 z)) | exact (((((HK5.out.set 6 (.int .i64 z)).set 3 (.int .i64 k)).set 4 (.int .i64 t)).set 5 (.string x)).set 7 (.int .i64 er)) | exact (((((HK5.out.set 6 (.int .i64 z)).set 7 (.int .i64 er)).set 3 (.int .i64 k)).set 4 (.int .i64 t)).set 5 (.string x)) | exact (((((HK5.out.set 7 (.int .i64 er)).set 3 (.int .i64 k)).set 4 (.int .i64 t)).set 5 (.string x)).set 6 (.int .i64 z)) | exact (((((HK5.out.set 7 (.int .i64 er)).set 6 (.int .i64 z)).set 3 (.int .i64 k)).set 4 (.int .i64 t)).set 5 (.string x))
      · exact mset (mset (mset (mset (mset hM5.out))))
  · have e1 : decide ((at_ : Int) < (s.size : Int)) = false := by rw [decide_eq_false_iff_not]; omega
    unfold cLook at hq
    rw [if_neg hlt] at hq
    injection hq with h1 h2
    injection h1 with h1 h3
    injection h3 with h3 h4
    injection h2 with h2 h5
    subst h1 h2 h3 h4 h5
    go_region
    all_goals
      go_wp2
      go_end0
      exact ⟨rfl, HK1.out.drew, HM1.out.drew⟩
end Go.Proofs.YtockkjhciojgbaaGreatDoor
/- CursorB -/
/- A cursor that goes along a log: made, asked, moved on, walked. No condition. -/
namespace Go.Proofs.YtockkjhciojgbaaGreatDoor
set_option maxRecDepth 100000
set_option linter.unusedSimpArgs false
open Go.RowKit
set_option linter.unusedVariables false
set_option linter.unusedSimpArgs false

def cSt (s : ByteArray) (at_ : Nat) : Int := if (cLook s at_).2.2 ≠ 0 then 2 else if at_ = s.size then 1 else 0
def CurI (w : World) (g : Nat) (s : ByteArray) (at_ cnt : Nat) : Prop := Blk w g 145 (curC s at_ cnt (cLook s at_)) ∧ at_ ≤ s.size
theorem CurI.mod {S : Nat → Prop} {w w' : World} {g : Nat} {s : ByteArray} {at_ cnt : Nat} (h : CurI w g s at_ cnt) (hm : Mod S w w') (hs : ¬ S g) : CurI w' g s at_ cnt := ⟨h.1.mod hm hs, h.2⟩
theorem CurI.below {w w' : World} {g : Nat} {s : ByteArray} {at_ cnt : Nat} (h : CurI w g s at_ cnt) (hb : Below w.heap.size w w') : CurI w' g s at_ cnt := ⟨h.1.below hb, h.2⟩
theorem cursor_New (s : ByteArray) (w : World) (hs : s.size ≤ 200000) :
    Calls Tryz.prog 45 #[.string s] w fun e w' => ∃ g, e = .returned (.pointer (some ⟨g, 0, none⟩)) ∧ w.heap.size ≤ g ∧ g < w'.heap.size ∧ CurI w' g s 0 0 ∧ Below w.heap.size w w' := by
  have HB0 := hid' (bel_alloc (bel_refl w) (.cells (curC s 0 0 (zR0, 0, 0)) 145))
  have HL := hid' (cursor_look w.heap.size s 0 0 (zR0, 0, 0) (w.alloc (.cells (curC s 0 0 (zR0, 0, 0)) 145)) (Blk.new_ _ _ _) hs)
  go_enter Tryz.func45, Tryz.ntmps45
  go_wp2_with fail
  refine (HL.out).mono ?_
  rintro e w1 ⟨rfl, hK, hM⟩
  go_wp2
  go_ret
  exact ⟨w.heap.size, rfl, Nat.le_refl _, hK.lt, ⟨hK, Nat.zero_le _⟩, bel_mod HB0.out hM (fun i hi h => by omega)⟩
theorem cursor_Err (g : Nat) (s : ByteArray) (at_ cnt : Nat) (w : World) (h : CurI w g s at_ cnt) :
    Calls Tryz.prog 93 #[.pointer (some ⟨g, 0, none⟩)] w fun e w' => e = .returned (.int .i64 (cLook s at_).2.2) ∧ w = w' := by
  have c7 : w.cell? ⟨g, 7, none⟩ = some (.int .i64 (cLook s at_).2.2) := by simpa [curC] using h.1.cell 7
  go_enter Tryz.func93, Tryz.ntmps93
  go_wp2
  go_ret
  exact ⟨rfl, rfl⟩
theorem cursor_Count (g : Nat) (s : ByteArray) (at_ cnt : Nat) (w : World) (h : CurI w g s at_ cnt) :
    Calls Tryz.prog 55 #[.pointer (some ⟨g, 0, none⟩)] w fun e w' => e = .returned (.int .i64 (cnt : Int)) ∧ w = w' := by
  have c7 : w.cell? ⟨g, 2, none⟩ = some (.int .i64 (cnt : Int)) := by simpa [curC] using h.1.cell 2
  go_enter Tryz.func55, Tryz.ntmps55
  go_wp2
  go_ret
  exact ⟨rfl, rfl⟩
set_option maxHeartbeats 1000000 in
theorem cursor_Ahead (g : Nat) (s : ByteArray) (at_ cnt : Nat) (w : World) (h : CurI w g s at_ cnt) (hs : s.size ≤ 200000) :
    Calls Tryz.prog 89 #[.pointer (some ⟨g, 0, none⟩)] w fun e w' => e = .returned (.int .i64 (cSt s at_)) ∧ Below w.heap.size w w' := by
  have hs' : s.size ≤ 9223372036854775807 := by omega
  have hle := h.2
  have hb0 := bel_refl w
  have c0 : w.cell? ⟨g, 0, none⟩ = some (.string s) := by simpa [curC] using h.1.cell 0
  have c1 : w.cell? ⟨g, 1, none⟩ = some (.int .i64 (at_ : Int)) := by simpa [curC] using h.1.cell 1
  have c7 : w.cell? ⟨g, 7, none⟩ = some (.int .i64 (cLook s at_).2.2) := by simpa [curC] using h.1.cell 7
  have hst : cSt s at_ = if (cLook s at_).2.2 ≠ 0 then 2 else if at_ = s.size then 1 else 0 := rfl
  generalize (cLook s at_).2.2 = er at *
  clear h
  by_cases he : er ≠ 0
  · rw [if_pos he] at hst
    rw [hst]
    have e1 : (er != 0) = true := by simpa using he
    clear he hst
    go_enter Tryz.func89, Tryz.ntmps89
    go_wp2
    go_ret
    exact ⟨rfl, hb0⟩
  rw [if_neg he] at hst
  have he : er = 0 := by omega
  subst he
  by_cases ha : at_ = s.size
  · rw [if_pos ha] at hst
    rw [hst]
    subst ha
    clear hst
    go_enter Tryz.func89, Tryz.ntmps89
    go_wp2
    go_region
    all_goals
      go_wp2
      go_ret
      exact ⟨rfl, bel_drew hb0⟩
  · rw [if_neg ha] at hst
    rw [hst]
    have e1 : ((at_ : Int) == (s.size : Int)) = false := by rw [beq_eq_false_iff_ne]; omega
    clear hst
    go_enter Tryz.func89, Tryz.ntmps89
    go_wp2
    go_region
    all_goals
      go_wp2
      go_ret
      exact ⟨rfl, bel_drew hb0⟩
theorem cSt0 {s : ByteArray} {at_ : Nat} (hle : at_ ≤ s.size) (h : cSt s at_ = 0) (hs : s.size ≤ 200000) : at_ < s.size ∧ ∃ r n, cLook s at_ = (r, ((n : Nat) : Int), 0) ∧ at_ + n ≤ s.size := by
  unfold cSt at h
  split at h
  · cases h
  · rename_i he
    split at h
    · cases h
    · rename_i ha
      have hlt : at_ < s.size := by omega
      refine ⟨hlt, ?_⟩
      unfold cLook at he ⊢
      rw [if_pos hlt] at he ⊢
      obtain ⟨⟨r, z, e⟩, hq⟩ : ∃ q, q = fGet (s.extract at_ s.size) := ⟨_, rfl⟩
      rw [← hq] at he ⊢
      have he : e = 0 := by simpa using he
      subst he
      obtain ⟨k, rfl, hk, -⟩ := fGet_one hq.symm (by rw [ByteArray.size_extract]; omega)
      rw [ByteArray.size_extract] at hk
      exact ⟨r, k, rfl, by omega⟩
set_option maxHeartbeats 1000000 in
theorem cursor_NextNo (g : Nat) (s : ByteArray) (at_ cnt : Nat) (w : World) (h : CurI w g s at_ cnt) (hs : s.size ≤ 200000) (hst : cSt s at_ ≠ 0) :
    Calls Tryz.prog 100 #[.pointer (some ⟨g, 0, none⟩)] w fun e w' => e = .returned (.tuple #[.agg #[.int .i64 0, .int .i64 0, .string ⟨#[]⟩], .bool false]) ∧ Below w.heap.size w w' := by
  have HA := hid' (fun W (hb : Below w.heap.size w W) => cursor_Ahead g s at_ cnt W (h.below hb) hs)
  generalize cSt s at_ = c at *
  have c1 : (c != 0) = true := by simpa using hst
  clear hst h
  have HB0 := hid' (bel_alloc (bel_refl w) (.cells #[.int .i64 0, .int .i64 0, .string ⟨#[]⟩] 106))
  have hbk := Blk.new_ w 106 #[.int .i64 0, .int .i64 0, .string ⟨#[]⟩]
  go_enter Tryz.func100, Tryz.ntmps100
  go_wp2_with fail
  generalize w.alloc (.cells #[.int .i64 0, .int .i64 0, .string ⟨#[]⟩] 106) = w0 at *
  have HK0 := hid' hbk
  clear hbk
  refine (HA.out _ HB0.out).mono ?_
  rintro e w1 ⟨rfl, hB1⟩
  have HK1 := hid' (HK0.out.below hB1)
  have d0 : w1.cell? ⟨w.heap.size, 0, none⟩ = some (.int .i64 0) := by simpa using HK1.out.cell 0
  have d1 : w1.cell? ⟨w.heap.size, 1, none⟩ = some (.int .i64 0) := by simpa using HK1.out.cell 1
  have d2 : w1.cell? ⟨w.heap.size, 2, none⟩ = some (.string ⟨#[]⟩) := by simpa using HK1.out.cell 2
  have f0 := HK1.out.frozen 0
  have f1 := HK1.out.frozen 1
  have f2 := HK1.out.frozen 2
  have HB1 := hid' (bel_then HB0.out hB1)
  clear hB1
  go_wp2
  refine bodyPost_ret (v := .tuple #[.agg #[.int .i64 0, .int .i64 0, .string ⟨#[]⟩], .bool false]) ?_ rfl ⟨rfl, ?_⟩
  · rw [results_cell_tmp rfl]; go_simp
  · repeat (first | exact HB1.out | refine bel_set ?_ (by exact Nat.le_refl _) _)
set_option maxHeartbeats 4000000 in
theorem cursor_NextYes (g : Nat) (s : ByteArray) (at_ cnt n : Nat) (r : Rec) (w : World) (h : CurI w g s at_ cnt) (hs : s.size ≤ 200000) (hst : cSt s at_ = 0) (hq : cLook s at_ = (r, (n : Int), 0)) (hn : at_ + n ≤ s.size) (hc : cnt ≤ 200000) :
    Calls Tryz.prog 100 #[.pointer (some ⟨g, 0, none⟩)] w fun e w' => e = .returned (.tuple #[.agg #[.int .i64 r.1, .int .i64 r.2.1, .string r.2.2], .bool true]) ∧ CurI w' g s (at_ + n) (cnt + 1) ∧ Mod (fun k => k = g) w w' := by
  have hs' : s.size ≤ 9223372036854775807 := by omega
  have HA := hid' (fun W (hb : Below w.heap.size w W) => cursor_Ahead g s at_ cnt W (h.below hb) hs)
  rw [hst] at HA
  have HH := hid' h.1
  rw [hq] at HH
  have hle := h.2
  have hgw := h.1.lt
  have hgn : g ≠ w.heap.size := by omega
  clear hst h hq
  obtain ⟨k, t, x⟩ := r
  obtain ⟨m, hm⟩ : ∃ m, m = at_ + n := ⟨_, rfl⟩
  have i1 : (at_ : Int) + (n : Int) = (m : Int) := by omega
  obtain ⟨cn, hcn⟩ : ∃ cn, cn = cnt + 1 := ⟨_, rfl⟩
  have i2 : (cnt : Int) + 1 = (cn : Int) := by omega
  have hcnb : cn ≤ 200001 := by omega
  rw [← hcn]
  clear hcn
  have hmb : m ≤ 200000 := by omega
  rw [← hm]
  rw [← hm] at hn
  clear hm
  have HB0 := hid' (bel_alloc (bel_refl w) (.cells #[.int .i64 0, .int .i64 0, .string ⟨#[]⟩] 106))
  have hbk := Blk.new_ w 106 #[.int .i64 0, .int .i64 0, .string ⟨#[]⟩]
  go_enter Tryz.func100, Tryz.ntmps100
  go_wp2_with fail
  generalize w.alloc (.cells #[.int .i64 0, .int .i64 0, .string ⟨#[]⟩] 106) = w0 at *
  have HK0 := hid' hbk
  clear hbk
  refine (HA.out _ HB0.out).mono ?_
  rintro e w1 ⟨rfl, hB1⟩
  have HB1 := hid' (bel_then HB0.out hB1)
  have HK1 := hid' (HK0.out.below hB1)
  have HH1 := hid' (HH.out.below HB1.out)
  clear hB1
  have c1 : w1.cell? ⟨g, 1, none⟩ = some (.int .i64 (at_ : Int)) := by simpa [curC] using HH1.out.cell 1
  have c2 : w1.cell? ⟨g, 2, none⟩ = some (.int .i64 (cnt : Int)) := by simpa [curC] using HH1.out.cell 2
  have c3 : w1.cell? ⟨g, 3, none⟩ = some (.int .i64 k) := by simpa [curC] using HH1.out.cell 3
  have c4 : w1.cell? ⟨g, 4, none⟩ = some (.int .i64 t) := by simpa [curC] using HH1.out.cell 4
  have c5 : w1.cell? ⟨g, 5, none⟩ = some (.string x) := by simpa [curC] using HH1.out.cell 5
  have c6 : w1.cell? ⟨g, 6, none⟩ = some (.int .i64 (n : Int)) := by simpa [curC] using HH1.out.cell 6
  have f1 := HH1.out.frozen 1
  have f2 := HH1.out.frozen 2
  have hl1 := HB1.out.size
  have hg1 : g < w1.heap.size := HH1.out.lt
  have hgn1 : g ≠ w1.heap.size := by omega
  have hwn : w.heap.size < w1.heap.size := HK1.out.lt
  go_wp2
  have hbk := Blk.new_ w1 106 #[.int .i64 k, .int .i64 t, .string x]
  have hk1 := HK1.out.alloc (.cells #[.int .i64 k, .int .i64 t, .string x] 106)
  have hh1 := HH1.out.alloc (.cells #[.int .i64 k, .int .i64 t, .string x] 106)
  have hb1 := bel_alloc HB1.out (.cells #[.int .i64 k, .int .i64 t, .string x] 106)
  generalize w1.alloc (.cells #[.int .i64 k, .int .i64 t, .string x] 106) = w2 at *
  generalize hbb : w1.heap.size = b1 at *
  generalize hba : w.heap.size = b0 at *
  have HBA := hid' hba
  have HT2 := hid' hbk
  have HK2 := hid' hk1
  have HH2 := hid' hh1
  have HB2 := hid' hb1
  clear hbk hk1 hh1 hb1 c1 c2 c3 c4 c5 c6 f1 f2 hbb hba HB1 HK1 HH1 HB0 HK0 HA HH
  have c1 : w2.cell? ⟨g, 1, none⟩ = some (.int .i64 (at_ : Int)) := by simpa [curC] using HH2.out.cell 1
  have c2 : w2.cell? ⟨g, 2, none⟩ = some (.int .i64 (cnt : Int)) := by simpa [curC] using HH2.out.cell 2
  have c6 : w2.cell? ⟨g, 6, none⟩ = some (.int .i64 (n : Int)) := by simpa [curC] using HH2.out.cell 6
  have f1 := HH2.out.frozen 1
  have f2 := HH2.out.frozen 2
  have i3 : IntKind.i64.wrap (m : Int) = (m : Int) := by rw [IntKind.wrap_i64]; omega
  go_region
  go_wp2_with fail
  have hm2 : Mod (fun k => k = g) w2 (((w2.setCell ⟨g, 1, none⟩ (.int .i64 (m : Int))).setCell ⟨g, 2, none⟩ (.int .i64 (cn : Int))).drew) := (mset (mset (Mod.refl _ w2))).drew
  have hh2 : Blk (((w2.setCell ⟨g, 1, none⟩ (.int .i64 (m : Int))).setCell ⟨g, 2, none⟩ (.int .i64 (cn : Int))).drew) g 145 (curC s m cn ((k, t, x), (n : Int), 0)) := ((HH2.out.set 1 _).set 2 _).drew
  generalize (((w2.setCell ⟨g, 1, none⟩ (.int .i64 (m : Int))).setCell ⟨g, 2, none⟩ (.int .i64 (cn : Int))).drew) = w3 at *
  refine (cursor_look g s m cn _ _ hh2 hs).mono ?_
  rintro e w4 ⟨rfl, hK4, hM4⟩
  have hM := hm2.trans (hM4.mono (fun _ _ h => h))
  have HT4 := hid' (HT2.out.mod hM (fun h => hgn1 h.symm))
  have HK4 := hid' (HK2.out.mod hM (fun h => hgn h.symm))
  have HC4 := hid' hK4
  have HM := hid' hM
  clear hK4 hM4 hM hm2 hh2 c1 c2 c6 f1 f2
  have d0 : w4.cell? ⟨b0, 0, none⟩ = some (.int .i64 0) := by simpa using HK4.out.cell 0
  have d1 : w4.cell? ⟨b0, 1, none⟩ = some (.int .i64 0) := by simpa using HK4.out.cell 1
  have d2 : w4.cell? ⟨b0, 2, none⟩ = some (.string ⟨#[]⟩) := by simpa using HK4.out.cell 2
  have f0 := HK4.out.frozen 0
  have f1 := HK4.out.frozen 1
  have f2 := HK4.out.frozen 2
  have t0 : w4.cell? ⟨b1, 0, none⟩ = some (.int .i64 k) := by simpa using HT4.out.cell 0
  have t1 : w4.cell? ⟨b1, 1, none⟩ = some (.int .i64 t) := by simpa using HT4.out.cell 1
  have t2 : w4.cell? ⟨b1, 2, none⟩ = some (.string x) := by simpa using HT4.out.cell 2
  go_wp2
  refine bodyPost_ret (v := .tuple #[.agg #[.int .i64 k, .int .i64 t, .string x], .bool true]) ?_ rfl ⟨rfl, ?_, ?_⟩
  · rw [results_cell_tmp rfl]; go_simp
  · exact ⟨((HC4.out.far hgn _).far hgn _).far hgn _, hn⟩
  · have hm := (Mod.of_below (S := fun k => k = g) (by rw [HBA.out]; exact HB2.out)).trans HM.out
    have hx : ∀ i, (⟨b0, i, none⟩ : Addr).block < w.heap.size → (⟨b0, i, none⟩ : Addr).block = g := fun i h => by have h : b0 < w.heap.size := h; rw [HBA.out] at h; omega
    exact ((hm.setCell (hx 0) _).setCell (hx 1) _).setCell (hx 2) _
end Go.Proofs.YtockkjhciojgbaaGreatDoor
