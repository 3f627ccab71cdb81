
/- A cursor that goes along a log: made, asked, moved on, walked. No condition. -/
import Derived.Test.YtioaijjmialdoaaGreatDoorCursor
namespace Go.Proofs.YtioaijjmialdoaaGreatDoor
set_option maxRecDepth 100000
set_option linter.unusedSimpArgs false
open Go.RowKit
set_option linter.unusedVariables false
set_option linter.unusedSimpArgs false

def cSt (s : ByteArray) (at_ : Nat) : Int := if (cLook s at_).2.2 ≠ 0 then 2 else if at_ = s.size then 1 else 0
def CurI (w : World) (g : Nat) (s : ByteArray) (at_ cnt : Nat) : Prop := Blk w g 64 (curC s at_ cnt (cLook s at_)) ∧ at_ ≤ s.size
theorem CurI.mod {S : Nat → Prop} {w w' : World} {g : Nat} {s : ByteArray} {at_ cnt : Nat} (h : CurI w g s at_ cnt) (hm : Mod S w w') (hs : ¬ S g) : CurI w' g s at_ cnt := ⟨h.1.mod hm hs, h.2⟩
theorem CurI.below {w w' : World} {g : Nat} {s : ByteArray} {at_ cnt : Nat} (h : CurI w g s at_ cnt) (hb : Below w.heap.size w w') : CurI w' g s at_ cnt := ⟨h.1.below hb, h.2⟩
theorem cursor_New (s : ByteArray) (w : World) (hs : s.size ≤ 200000) :
    Calls Tryz.prog 5 #[.string s] w fun e w' => ∃ g, e = .returned (.pointer (some ⟨g, 0, none⟩)) ∧ w.heap.size ≤ g ∧ g < w'.heap.size ∧ CurI w' g s 0 0 ∧ Below w.heap.size w w' := by
  have HB0 := hid' (bel_alloc (bel_refl w) (.cells (curC s 0 0 (zR0, 0, 0)) 64))
  have HL := hid' (cursor_look w.heap.size s 0 0 (zR0, 0, 0) (w.alloc (.cells (curC s 0 0 (zR0, 0, 0)) 64)) (Blk.new_ _ _ _) hs)
  go_enter Tryz.func5, Tryz.ntmps5
  go_wp2_with fail
  refine (HL.out).mono ?_
  rintro e w1 ⟨rfl, hK, hM⟩
  go_wp2
  go_ret
  exact ⟨w.heap.size, rfl, Nat.le_refl _, hK.lt, ⟨hK, Nat.zero_le _⟩, bel_mod HB0.out hM (fun i hi h => by omega)⟩
theorem cursor_Err (g : Nat) (s : ByteArray) (at_ cnt : Nat) (w : World) (h : CurI w g s at_ cnt) :
    Calls Tryz.prog 10 #[.pointer (some ⟨g, 0, none⟩)] w fun e w' => e = .returned (.int .i64 (cLook s at_).2.2) ∧ w = w' := by
  have c7 : w.cell? ⟨g, 7, none⟩ = some (.int .i64 (cLook s at_).2.2) := by simpa [curC] using h.1.cell 7
  go_enter Tryz.func10, Tryz.ntmps10
  go_wp2
  go_ret
  exact ⟨rfl, rfl⟩
theorem cursor_Count (g : Nat) (s : ByteArray) (at_ cnt : Nat) (w : World) (h : CurI w g s at_ cnt) :
    Calls Tryz.prog 7 #[.pointer (some ⟨g, 0, none⟩)] w fun e w' => e = .returned (.int .i64 (cnt : Int)) ∧ w = w' := by
  have c7 : w.cell? ⟨g, 2, none⟩ = some (.int .i64 (cnt : Int)) := by simpa [curC] using h.1.cell 2
  go_enter Tryz.func7, Tryz.ntmps7
  go_wp2
  go_ret
  exact ⟨rfl, rfl⟩
set_option maxHeartbeats 1000000 in
theorem cursor_Ahead (g : Nat) (s : ByteArray) (at_ cnt : Nat) (w : World) (h : CurI w g s at_ cnt) (hs : s.size ≤ 200000) :
    Calls Tryz.prog 6 #[.pointer (some ⟨g, 0, none⟩)] w fun e w' => e = .returned (.int .i64 (cSt s at_)) ∧ Below w.heap.size w w' := by
  have hs' : s.size ≤ 9223372036854775807 := by omega
  have hle := h.2
  have hb0 := bel_refl w
  have c0 : w.cell? ⟨g, 0, none⟩ = some (.string s) := by simpa [curC] using h.1.cell 0
  have c1 : w.cell? ⟨g, 1, none⟩ = some (.int .i64 (at_ : Int)) := by simpa [curC] using h.1.cell 1
  have c7 : w.cell? ⟨g, 7, none⟩ = some (.int .i64 (cLook s at_).2.2) := by simpa [curC] using h.1.cell 7
  have hst : cSt s at_ = if (cLook s at_).2.2 ≠ 0 then 2 else if at_ = s.size then 1 else 0 := rfl
  generalize (cLook s at_).2.2 = er at *
  clear h
  by_cases he : er ≠ 0
  · rw [if_pos he] at hst
    rw [hst]
    have e1 : (er != 0) = true := by simpa using he
    clear he hst
    go_enter Tryz.func6, Tryz.ntmps6
    go_wp2
    go_ret
    exact ⟨rfl, hb0⟩
  rw [if_neg he] at hst
  have he : er = 0 := by omega
  subst he
  by_cases ha : at_ = s.size
  · rw [if_pos ha] at hst
    rw [hst]
    subst ha
    clear hst
    go_enter Tryz.func6, Tryz.ntmps6
    go_wp2
    go_region
    all_goals
      go_wp2
      go_ret
      exact ⟨rfl, bel_drew hb0⟩
  · rw [if_neg ha] at hst
    rw [hst]
    have e1 : ((at_ : Int) == (s.size : Int)) = false := by rw [beq_eq_false_iff_ne]; omega
    clear hst
    go_enter Tryz.func6, Tryz.ntmps6
    go_wp2
    go_region
    all_goals
      go_wp2
      go_ret
      exact ⟨rfl, bel_drew hb0⟩
theorem cSt0 {s : ByteArray} {at_ : Nat} (hle : at_ ≤ s.size) (h : cSt s at_ = 0) (hs : s.size ≤ 200000) : at_ < s.size ∧ ∃ r n, cLook s at_ = (r, ((n : Nat) : Int), 0) ∧ at_ + n ≤ s.size := by
  unfold cSt at h
  split at h
  · cases h
  · rename_i he
    split at h
    · cases h
    · rename_i ha
      have hlt : at_ < s.size := by omega
      refine ⟨hlt, ?_⟩
      unfold cLook at he ⊢
      rw [if_pos hlt] at he ⊢
      obtain ⟨⟨r, z, e⟩, hq⟩ : ∃ q, q = fGet (s.extract at_ s.size) := ⟨_, rfl⟩
      rw [← hq] at he ⊢
      have he : e = 0 := by simpa using he
      subst he
      obtain ⟨k, rfl, hk, -⟩ := fGet_one hq.symm (by rw [ByteArray.size_extract]; omega)
      rw [ByteArray.size_extract] at hk
      exact ⟨r, k, rfl, by omega⟩
set_option maxHeartbeats 1000000 in
theorem cursor_NextNo (g : Nat) (s : ByteArray) (at_ cnt : Nat) (w : World) (h : CurI w g s at_ cnt) (hs : s.size ≤ 200000) (hst : cSt s at_ ≠ 0) :
    Calls Tryz.prog 8 #[.pointer (some ⟨g, 0, none⟩)] w fun e w' => e = .returned (.tuple #[.agg #[.int .i64 0, .int .i64 0, .string ⟨#[]⟩], .bool false]) ∧ Below w.heap.size w w' := by
  have HA := hid' (fun W (hb : Below w.heap.size w W) => cursor_Ahead g s at_ cnt W (h.below hb) hs)
  generalize cSt s at_ = c at *
  have c1 : (c != 0) = true := by simpa using hst
  clear hst h
  have HB0 := hid' (bel_alloc (bel_refl w) (.cells #[.int .i64 0, .int .i64 0, .string ⟨#[]⟩] 34))
  have hbk := Blk.new_ w 34 #[.int .i64 0, .int .i64 0, .string ⟨#[]⟩]
  go_enter Tryz.func8, Tryz.ntmps8
  go_wp2_with fail
  generalize w.alloc (.cells #[.int .i64 0, .int .i64 0, .string ⟨#[]⟩] 34) = w0 at *
  have HK0 := hid' hbk
  clear hbk
  refine (HA.out _ HB0.out).mono ?_
  rintro e w1 ⟨rfl, hB1⟩
  have HK1 := hid' (HK0.out.below hB1)
  have d0 : w1.cell? ⟨w.heap.size, 0, none⟩ = some (.int .i64 0) := by simpa using HK1.out.cell 0
  have d1 : w1.cell? ⟨w.heap.size, 1, none⟩ = some (.int .i64 0) := by simpa using HK1.out.cell 1
  have d2 : w1.cell? ⟨w.heap.size, 2, none⟩ = some (.string ⟨#[]⟩) := by simpa using HK1.out.cell 2
  have f0 := HK1.out.frozen 0
  have f1 := HK1.out.frozen 1
  have f2 := HK1.out.frozen 2
  have HB1 := hid' (bel_then HB0.out hB1)
  clear hB1
  go_wp2
  refine bodyPost_ret (v := .tuple #[.agg #[.int .i64 0, .int .i64 0, .string ⟨#[]⟩], .bool false]) ?_ rfl ⟨rfl, ?_⟩
  · rw [results_cell_tmp rfl]; go_simp
  · repeat (first | exact HB1.out | refine bel_set ?_ (by exact Nat.le_refl _) _)
set_option maxHeartbeats 4000000 in
theorem cursor_NextYes (g : Nat) (s : ByteArray) (at_ cnt n : Nat) (r : Rec) (w : World) (h : CurI w g s at_ cnt) (hs : s.size ≤ 200000) (hst : cSt s at_ = 0) (hq : cLook s at_ = (r, (n : Int), 0)) (hn : at_ + n ≤ s.size) (hc : cnt ≤ 200000) :
    Calls Tryz.prog 8 #[.pointer (some ⟨g, 0, none⟩)] w fun e w' => e = .returned (.tuple #[.agg #[.int .i64 r.1, .int .i64 r.2.1, .string r.2.2], .bool true]) ∧ CurI w' g s (at_ + n) (cnt + 1) ∧ Mod (fun k => k = g) w w' := by
  have hs' : s.size ≤ 9223372036854775807 := by omega
  have HA := hid' (fun W (hb : Below w.heap.size w W) => cursor_Ahead g s at_ cnt W (h.below hb) hs)
  rw [hst] at HA
  have HH := hid' h.1
  rw [hq] at HH
  have hle := h.2
  have hgw := h.1.lt
  have hgn : g ≠ w.heap.size := by omega
  clear hst h hq
  obtain ⟨k, t, x⟩ := r
  obtain ⟨m, hm⟩ : ∃ m, m = at_ + n := ⟨_, rfl⟩
  have i1 : (at_ : Int) + (n : Int) = (m : Int) := by omega
  obtain ⟨cn, hcn⟩ : ∃ cn, cn = cnt + 1 := ⟨_, rfl⟩
  have i2 : (cnt : Int) + 1 = (cn : Int) := by omega
  have hcnb : cn ≤ 200001 := by omega
  rw [← hcn]
  clear hcn
  have hmb : m ≤ 200000 := by omega
  rw [← hm]
  rw [← hm] at hn
  clear hm
  have HB0 := hid' (bel_alloc (bel_refl w) (.cells #[.int .i64 0, .int .i64 0, .string ⟨#[]⟩] 34))
  have hbk := Blk.new_ w 34 #[.int .i64 0, .int .i64 0, .string ⟨#[]⟩]
  go_enter Tryz.func8, Tryz.ntmps8
  go_wp2_with fail
  generalize w.alloc (.cells #[.int .i64 0, .int .i64 0, .string ⟨#[]⟩] 34) = w0 at *
  have HK0 := hid' hbk
  clear hbk
  refine (HA.out _ HB0.out).mono ?_
  rintro e w1 ⟨rfl, hB1⟩
  have HB1 := hid' (bel_then HB0.out hB1)
  have HK1 := hid' (HK0.out.below hB1)
  have HH1 := hid' (HH.out.below HB1.out)
  clear hB1
  have c1 : w1.cell? ⟨g, 1, none⟩ = some (.int .i64 (at_ : Int)) := by simpa [curC] using HH1.out.cell 1
  have c2 : w1.cell? ⟨g, 2, none⟩ = some (.int .i64 (cnt : Int)) := by simpa [curC] using HH1.out.cell 2
  have c3 : w1.cell? ⟨g, 3, none⟩ = some (.int .i64 k) := by simpa [curC] using HH1.out.cell 3
  have c4 : w1.cell? ⟨g, 4, none⟩ = some (.int .i64 t) := by simpa [curC] using HH1.out.cell 4
  have c5 : w1.cell? ⟨g, 5, none⟩ = some (.string x) := by simpa [curC] using HH1.out.cell 5
  have c6 : w1.cell? ⟨g, 6, none⟩ = some (.int .i64 (n : Int)) := by simpa [curC] using HH1.out.cell 6
  have f1 := HH1.out.frozen 1
  have f2 := HH1.out.frozen 2
  have hl1 := HB1.out.size
  have hg1 : g < w1.heap.size := HH1.out.lt
  have hgn1 : g ≠ w1.heap.size := by omega
  have hwn : w.heap.size < w1.heap.size := HK1.out.lt
  go_wp2
  have hbk := Blk.new_ w1 34 #[.int .i64 k, .int .i64 t, .string x]
  have hk1 := HK1.out.alloc (.cells #[.int .i64 k, .int .i64 t, .string x] 34)
  have hh1 := HH1.out.alloc (.cells #[.int .i64 k, .int .i64 t, .string x] 34)
  have hb1 := bel_alloc HB1.out (.cells #[.int .i64 k, .int .i64 t, .string x] 34)
  generalize w1.alloc (.cells #[.int .i64 k, .int .i64 t, .string x] 34) = w2 at *
  generalize hbb : w1.heap.size = b1 at *
  generalize hba : w.heap.size = b0 at *
  have HBA := hid' hba
  have HT2 := hid' hbk
  have HK2 := hid' hk1
  have HH2 := hid' hh1
  have HB2 := hid' hb1
  clear hbk hk1 hh1 hb1 c1 c2 c3 c4 c5 c6 f1 f2 hbb hba HB1 HK1 HH1 HB0 HK0 HA HH
  have c1 : w2.cell? ⟨g, 1, none⟩ = some (.int .i64 (at_ : Int)) := by simpa [curC] using HH2.out.cell 1
  have c2 : w2.cell? ⟨g, 2, none⟩ = some (.int .i64 (cnt : Int)) := by simpa [curC] using HH2.out.cell 2
  have c6 : w2.cell? ⟨g, 6, none⟩ = some (.int .i64 (n : Int)) := by simpa [curC] using HH2.out.cell 6
  have f1 := HH2.out.frozen 1
  have f2 := HH2.out.frozen 2
  have i3 : IntKind.i64.wrap (m : Int) = (m : Int) := by rw [IntKind.wrap_i64]; omega
  go_region
  go_wp2_with fail
  have hm2 : Mod (fun k => k = g) w2 (((w2.setCell ⟨g, 1, none⟩ (.int .i64 (m : Int))).setCell ⟨g, 2, none⟩ (.int .i64 (cn : Int))).drew) := (mset (mset (Mod.refl _ w2))).drew
  have hh2 : Blk (((w2.setCell ⟨g, 1, none⟩ (.int .i64 (m : Int))).setCell ⟨g, 2, none⟩ (.int .i64 (cn : Int))).drew) g 64 (curC s m cn ((k, t, x), (n : Int), 0)) := ((HH2.out.set 1 _).set 2 _).drew
  generalize (((w2.setCell ⟨g, 1, none⟩ (.int .i64 (m : Int))).setCell ⟨g, 2, none⟩ (.int .i64 (cn : Int))).drew) = w3 at *
  refine (cursor_look g s m cn _ _ hh2 hs).mono ?_
  rintro e w4 ⟨rfl, hK4, hM4⟩
  have hM := hm2.trans (hM4.mono (fun _ _ h => h))
  have HT4 := hid' (HT2.out.mod hM (fun h => hgn1 h.symm))
  have HK4 := hid' (HK2.out.mod hM (fun h => hgn h.symm))
  have HC4 := hid' hK4
  have HM := hid' hM
  clear hK4 hM4 hM hm2 hh2 c1 c2 c6 f1 f2
  have d0 : w4.cell? ⟨b0, 0, none⟩ = some (.int .i64 0) := by simpa using HK4.out.cell 0
  have d1 : w4.cell? ⟨b0, 1, none⟩ = some (.int .i64 0) := by simpa using HK4.out.cell 1
  have d2 : w4.cell? ⟨b0, 2, none⟩ = some (.string ⟨#[]⟩) := by simpa using HK4.out.cell 2
  have f0 := HK4.out.frozen 0
  have f1 := HK4.out.frozen 1
  have f2 := HK4.out.frozen 2
  have t0 : w4.cell? ⟨b1, 0, none⟩ = some (.int .i64 k) := by simpa using HT4.out.cell 0
  have t1 : w4.cell? ⟨b1, 1, none⟩ = some (.int .i64 t) := by simpa using HT4.out.cell 1
  have t2 : w4.cell? ⟨b1, 2, none⟩ = some (.string x) := by simpa using HT4.out.cell 2
  go_wp2
  refine bodyPost_ret (v := .tuple #[.agg #[.int .i64 k, .int .i64 t, .string x], .bool true]) ?_ rfl ⟨rfl, ?_, ?_⟩
  · rw [results_cell_tmp rfl]; go_simp
  · exact ⟨((HC4.out.far hgn _).far hgn _).far hgn _, hn⟩
  · have hm := (Mod.of_below (S := fun k => k = g) (by rw [HBA.out]; exact HB2.out)).trans HM.out
    have hx : ∀ i, (⟨b0, i, none⟩ : Addr).block < w.heap.size → (⟨b0, i, none⟩ : Addr).block = g := fun i h => by have h : b0 < w.heap.size := h; rw [HBA.out] at h; omega
    exact ((hm.setCell (hx 0) _).setCell (hx 1) _).setCell (hx 2) _
end Go.Proofs.YtioaijjmialdoaaGreatDoor
