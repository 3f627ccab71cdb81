
/- What the functions of align do. No condition. -/
import Derived.Test.YtockkjhciojgbaaGreatDoorClamp
import Derived.Deep.RegionHeld3
import Derived.BigRegion
import Derived.BigQuiet
namespace Go.Proofs.YtockkjhciojgbaaGreatDoor
set_option maxRecDepth 100000
set_option linter.unusedSimpArgs false
open Go.RowKit
set_option linter.unusedVariables false

def AlignB (w : World) (g b : Nat) (drift glob : Int) (l : List Int) : Prop :=
  Blk w g 136 #[.int .i64 drift, .int .i64 glob, .slice (some ⟨b, 0, none⟩) l.length l.length] ∧ BlkL (Value.int .i64) w b 3 l ∧ I64 drift ∧ I64 glob
theorem AlignB.ne {w : World} {g b : Nat} {drift glob : Int} {l : List Int} (h : AlignB w g b drift glob l) : g ≠ b := Blk.ne h.1 h.2.1 (by decide)
theorem AlignB.mod {w w' : World} {g b : Nat} {drift glob : Int} {l : List Int} {S : Nat → Prop} (h : AlignB w g b drift glob l) (m : Mod S w w') (h1 : ¬ S g) (h2 : ¬ S b) : AlignB w' g b drift glob l :=
  ⟨h.1.mod m h1, h.2.1.mod m h2, h.2.2⟩
theorem AlignB.below {w w' : World} {g b : Nat} {drift glob : Int} {l : List Int} (h : AlignB w g b drift glob l) (m : Below w.heap.size w w') : AlignB w' g b drift glob l :=
  ⟨h.1.below m, h.2.1.below m, h.2.2⟩
theorem AlignB.dr {w w' : World} {g b : Nat} {drift glob : Int} {l : List Int} (h : AlignB w g b drift glob l) (m : Dr w w') : AlignB w' g b drift glob l := by
  obtain ⟨n, rfl⟩ := m; exact h
abbrev alLim (glob drift : Int) : Int := satAdd glob drift
def alPaused (l : List Int) (lim i : Int) : Bool := decide (0 ≤ i ∧ i < l.length ∧ lim < l.getD i.toNat 0)
theorem alPaused_at {l : List Int} {k : Nat} {x : Int} (hx : l[k]? = some x) (lim : Int) : alPaused l lim (k : Int) = decide (lim < x) := by
  have h1 : l.getD ((k : Int)).toNat 0 = x := by rw [Int.toNat_natCast, List.getD_eq_getElem?_getD, hx]; rfl
  have h2 := (List.getElem?_eq_some_iff.1 hx).1
  unfold alPaused
  rw [Bool.eq_iff_iff]
  simp only [decide_eq_true_eq]
  rw [h1]
  omega
def alHeldK (l : List Int) (lim : Int) (k : Nat) : List Int := ((List.range k).filter (fun i : Nat => alPaused l lim (i : Int))).map (fun i : Nat => (i : Int))
def alHeld (l : List Int) (lim : Int) : List Int := alHeldK l lim l.length
theorem alHeldK_succ (l : List Int) (lim : Int) (k : Nat) : alHeldK l lim (k + 1) = alHeldK l lim k ++ if alPaused l lim (k : Int) = true then [(k : Int)] else [] := by
  unfold alHeldK
  rw [List.range_succ, List.filter_append, List.map_append]
  congr 1
  by_cases h : alPaused l lim (k : Int) = true
  · simp [h]
  · simp [h]
theorem alHeldK_len (l : List Int) (lim : Int) (k : Nat) : (alHeldK l lim k).length ≤ k := by
  unfold alHeldK
  rw [List.length_map]
  exact Nat.le_trans (List.length_filter_le _ _) (by simp)

theorem alHeld_mem (l : List Int) (lim : Int) : ∀ x ∈ alHeld l lim, ∃ q : Nat, x = (q : Int) ∧ q < l.length := by
  intro x hx
  unfold alHeld alHeldK at hx
  obtain ⟨q, hq, rfl⟩ := List.mem_map.1 hx
  exact ⟨q, rfl, List.mem_range.1 (List.mem_filter.1 hq).1⟩
theorem align_New (drift n : Int) (w : World) (hd : I64 drift) (hn : n ≤ 1000) :
    Calls Tryz.prog 43 #[.int .i64 drift, .int .i64 n] w fun e w' => ∃ g b, e = .returned (.pointer (some ⟨g, 0, none⟩)) ∧ w.heap.size ≤ g ∧ w.heap.size ≤ b ∧ AlignB w' g b drift NEV (List.replicate n.toNat NEV) ∧ Below w.heap.size w w' := by
  obtain ⟨m, hm⟩ : ∃ m : Nat, max n 0 = (m : Int) := ⟨n.toNat, by omega⟩
  have hmn : n.toNat = m := by omega
  have hm1 : m ≤ 1000 := by omega
  have hmk := mk1_run (P := Tryz.prog) 99 3 (.int .i64 0) 8 Tryz.underlying99 (by kernel_rfl) rfl m (by omega) (by omega)
  have HMN := hid' hmn
  clear hmn hn
  go_enter Tryz.func43, Tryz.ntmps43
  go_wp2
  have hb0 := (BlkL.made' (f := Value.int .i64) w 3 0 m).alloc (.cells #[.int .i64 drift, .int .i64 (-9223372036854775808), .slice (some ⟨w.heap.size, 0, none⟩) m m] 136)
  have hg0 := Blk.new_ (w.alloc (.cells (madeCells #[Value.int .i64 0] m) 3)) 136 #[.int .i64 drift, .int .i64 (-9223372036854775808), .slice (some ⟨w.heap.size, 0, none⟩) m m]
  have hbw : Below w.heap.size w ((w.alloc (.cells (madeCells #[Value.int .i64 0] m) 3)).alloc (.cells #[.int .i64 drift, .int .i64 (-9223372036854775808), .slice (some ⟨w.heap.size, 0, none⟩) m m] 136)) := (by repeat (first | assumption | apply bel_alloc | apply bel_drewN | apply bel_drew | exact bel_refl _))
  rw [show (w.alloc (.cells (madeCells #[Value.int .i64 0] m) 3)).heap.size = w.heap.size + 1 by simp] at hg0
  generalize hW : (w.alloc (.cells (madeCells #[Value.int .i64 0] m) 3)).alloc (.cells #[.int .i64 drift, .int .i64 (-9223372036854775808), .slice (some ⟨w.heap.size, 0, none⟩) m m] 136) = w1 at *
  have HB0 := hid' hb0
  have HG0 := hid' hg0
  have HBW := hid' hbw
  clear hmk hb0 hg0 hbw hW
  go_loopw [18] (fun v18 wr => ∃ k : Nat, k ≤ m ∧ v18 = .int .i64 k ∧ Blk wr (w.heap.size + 1) 136 #[.int .i64 drift, .int .i64 (-9223372036854775808), .slice (some ⟨w.heap.size, 0, none⟩) m m] ∧
    BlkL (Value.int .i64) wr w.heap.size 3 (List.replicate k NEV ++ List.replicate (m - k) 0) ∧ Below w.heap.size w wr) (fun v18 _ => m - (intOf v18).toNat)
  case atStart => exact ⟨0, Nat.zero_le _, rfl, HG0.out, by simpa using HB0.out, HBW.out⟩
  case round =>
    obtain ⟨k, hk, rfl, hg, hb, hbw⟩ := hrel
    have HG := hid' hg
    have HB := hid' hb
    have HW := hid' hbw
    have h2 : wr.cell? ⟨w.heap.size + 1, 2, none⟩ = some (.slice (some ⟨w.heap.size, 0, none⟩) m m) := by simpa using hg.cell 2
    by_cases hlt : k < m
    · have hc := hb.cell (fill_get NEV 0 hlt)
      have hf := hb.frozen k
      clear hg hb hbw
      go_wp2
      go_roundw
      case rel => exact ⟨k + 1, by omega, by go_num, HG.out.far (p := ⟨w.heap.size, k, none⟩) (by simp) _, by rw [← fill_set NEV 0 hlt]; exact HB.out.set k NEV, bel_set HW.out (Nat.le_refl _) _⟩
      case measure => simp [intOf]; omega
    · have hkm : k = m := by omega
      subst hkm
      clear hg hb hbw
      go_wp2
      go_ret
      have hb2 := HB.out
      rw [Nat.sub_self, List.replicate_zero, List.append_nil] at hb2
      refine ⟨_, _, rfl, by omega, Nat.le_refl _, ?_, HW.out⟩
      rw [HMN.out]
      refine ⟨?_, hb2, hd, I64.nev⟩
      rw [List.length_replicate]
      exact HG.out
theorem align_Limit (g b : Nat) (drift glob : Int) (l : List Int) (w : World) (h : AlignB w g b drift glob l) :
    Calls Tryz.prog 161 #[.pointer (some ⟨g, 0, none⟩)] w fun e w' => e = .returned (.int .i64 (alLim glob drift)) ∧ Dr w w' := by
  have h0 : w.cell? ⟨g, 0, none⟩ = some (.int .i64 drift) := by simpa using h.1.cell 0
  have h1 : w.cell? ⟨g, 1, none⟩ = some (.int .i64 glob) := by simpa using h.1.cell 1
  have hd := h.2.2.1
  have hg := h.2.2.2
  go_enter Tryz.func161, Tryz.ntmps161
  go_wp2
  go_quiet ((go_at_call 130; exact quiet_same (sat_Add glob drift _ hg hd) (by repeat (first | exact Dr.refl _ | apply Dr.step | apply Dr.stepd))))
  go_wp2
  go_ret
  exact ⟨rfl, (by repeat (first | exact Dr.refl _ | apply Dr.step | apply Dr.stepd))⟩
theorem align_Paused (g b : Nat) (drift glob : Int) (l : List Int) (i : Int) (w : World) (h : AlignB w g b drift glob l) :
    Calls Tryz.prog 135 #[.pointer (some ⟨g, 0, none⟩), .int .i64 i] w fun e w' => e = .returned (.bool (alPaused l (alLim glob drift) i)) ∧ Dr w w' := by
  have h2 : w.cell? ⟨g, 2, none⟩ = some (.slice (some ⟨b, 0, none⟩) l.length l.length) := by simpa using h.1.cell 2
  have HH := hid' h
  by_cases c1 : i < 0
  · have HE := hid' (show alPaused l (alLim glob drift) i = false by unfold alPaused; exact decide_eq_false (by omega))
    have c1' : decide (0 ≤ i) = false := decide_eq_false (by omega)
    clear h
    go_enter Tryz.func135, Tryz.ntmps135
    go_wp2
    go_quiet (fail)
    go_wp2
    go_ret
    exact ⟨ret_bool HE.out.symm, (by repeat (first | exact Dr.refl _ | apply Dr.step | apply Dr.stepd))⟩
  · obtain ⟨k, rfl⟩ := Int.eq_ofNat_of_zero_le (show 0 ≤ i by omega)
    have c0 : (0 : Int) ≤ (k : Int) := by omega
    by_cases c2 : k < l.length
    · obtain ⟨x, hx⟩ : ∃ x, l[k]? = some x := ⟨_, List.getElem?_eq_getElem c2⟩
      have hc := h.2.1.cell hx
      have HE := hid' (show alPaused l (alLim glob drift) (k : Int) = decide (alLim glob drift < x) by
        
        have h1 : l.getD ((k : Int)).toNat 0 = x := by rw [Int.toNat_natCast, List.getD_eq_getElem?_getD, hx]; rfl
        unfold alPaused
        rw [Bool.eq_iff_iff]
        simp only [decide_eq_true_eq]
        rw [h1]
        omega)
      have c2' : (k : Int) < (l.length : Int) := by omega
      clear h hx c1
      go_enter Tryz.func135, Tryz.ntmps135
      go_wp2
      go_quiet ((go_at_call 161; exact quiet_gen (align_Limit g b drift glob l _ (HH.out.dr (by repeat (first | exact Dr.refl _ | apply Dr.step | apply Dr.stepd)))) (by repeat (first | exact Dr.refl _ | apply Dr.step | apply Dr.stepd))))
      go_wp2
      go_ret
      exact ⟨ret_bool (by rw [HE.out]), (by repeat (first | exact Dr.refl _ | apply Dr.step | apply Dr.stepd))⟩
    · have HE := hid' (show alPaused l (alLim glob drift) (k : Int) = false by unfold alPaused; exact decide_eq_false (by omega))
      have c2' : decide (k < l.length) = false := decide_eq_false (by omega)
      clear h c1
      go_enter Tryz.func135, Tryz.ntmps135
      go_wp2
      go_quiet (fail)
      go_wp2
      go_ret
      exact ⟨ret_bool HE.out.symm, (by repeat (first | exact Dr.refl _ | apply Dr.step | apply Dr.stepd))⟩
def alSet (l : List Int) (i x : Int) : List Int := if 0 ≤ i then l.set i.toNat x else l
theorem alSet_len (l : List Int) (i x : Int) : (alSet l i x).length = l.length := by unfold alSet; split <;> simp
theorem align_Local (g b : Nat) (drift glob : Int) (l : List Int) (i x : Int) (w : World) (h : AlignB w g b drift glob l) :
    Calls Tryz.prog 102 #[.pointer (some ⟨g, 0, none⟩), .int .i64 i, .int .i64 x] w fun e w' => e = .returned (.bool (decide (0 ≤ i ∧ i < l.length))) ∧
      AlignB w' g b drift glob (alSet l i x) ∧ Mod (fun k => k = b) w w' := by
  have h2 : w.cell? ⟨g, 2, none⟩ = some (.slice (some ⟨b, 0, none⟩) l.length l.length) := by simpa using h.1.cell 2
  have HH := hid' h
  by_cases c1 : i < 0
  · have HE := hid' (show decide (0 ≤ i ∧ i < l.length) = false from decide_eq_false (by omega))
    have HS := hid' (show alSet l i x = l by unfold alSet; rw [if_neg (by omega)])
    clear h
    go_enter Tryz.func102, Tryz.ntmps102
    go_wp2
    go_ret
    exact ⟨ret_bool HE.out.symm, by rw [HS.out]; exact HH.out, Mod.refl _ _⟩
  · obtain ⟨k, rfl⟩ := Int.eq_ofNat_of_zero_le (show 0 ≤ i by omega)
    have HS := hid' (show alSet l (k : Int) x = l.set k x by unfold alSet; rw [if_pos (by omega)]; simp)
    have c0 : (0 : Int) ≤ (k : Int) := by omega
    by_cases c2 : k < l.length
    · obtain ⟨y, hy⟩ : ∃ y, l[k]? = some y := ⟨_, List.getElem?_eq_getElem c2⟩
      have hc := h.2.1.cell hy
      have hf := h.2.1.frozen k
      have HE := hid' (show decide (0 ≤ (k : Int) ∧ (k : Int) < l.length) = true from decide_eq_true (by omega))
      have c2' : (k : Int) < (l.length : Int) := by omega
      clear h hy c1
      go_enter Tryz.func102, Tryz.ntmps102
      go_wp2
      go_ret
      refine ⟨ret_bool HE.out.symm, ?_, (Mod.refl (fun k => k = b) w).setCell (p := ⟨b, k, none⟩) (fun _ => rfl) _⟩
      rw [HS.out]
      refine ⟨(HH.out.1.far (p := ⟨b, k, none⟩) HH.out.ne _).cast (by rw [List.length_set]), HH.out.2.1.set k x, HH.out.2.2⟩
    · have HE := hid' (show decide (0 ≤ (k : Int) ∧ (k : Int) < l.length) = false from decide_eq_false (by omega))
      have HS2 := hid' (show l.set k x = l from List.set_eq_of_length_le (by omega))
      have c2' : decide (k < l.length) = false := decide_eq_false (by omega)
      clear h c1
      go_enter Tryz.func102, Tryz.ntmps102
      go_wp2
      go_ret
      exact ⟨ret_bool HE.out.symm, by rw [HS.out, HS2.out]; exact HH.out, Mod.refl _ _⟩
theorem align_Held (g b : Nat) (drift glob : Int) (l : List Int) (w : World) (h : AlignB w g b drift glob l) (hn : l.length ≤ 1000) :
    Calls Tryz.prog 134 #[.pointer (some ⟨g, 0, none⟩)] w fun e w' => ∃ v, e = .returned v ∧ w'.ownsRow w.heap.size 3 1 v (alHeld l (alLim glob drift)).length ((alHeld l (alLim glob drift)).map (.int .i64)) ∧ Below w.heap.size w w' := by
  have h2 : w.cell? ⟨g, 2, none⟩ = some (.slice (some ⟨b, 0, none⟩) l.length l.length) := by simpa using h.1.cell 2
  have HH := hid' h
  clear h
  go_enter Tryz.func134, Tryz.ntmps134
  go_wp2
  go_loopw [3, 10] (fun v3 v10 wr => ∃ k : Nat, k ≤ l.length ∧ v10 = .int .i64 k ∧ Below w.heap.size w wr ∧
    wr.ownsRow w.heap.size 3 1 v3 (alHeldK l (alLim glob drift) k).length ((alHeldK l (alLim glob drift) k).map (.int .i64))) (fun _ v10 _ => l.length - (intOf v10).toNat)
  case atStart => exact ⟨0, Nat.zero_le _, rfl, bel_refl _, own_nil' _ _ _ _⟩
  case round =>
    obtain ⟨k, hk, rfl, hbw, hown⟩ := hrel
    have HO := hid' hown
    clear hown
    by_cases hlt : k < l.length
    · have HS := hid' (alHeldK_succ l (alLim glob drift) k)
      have HL := hid' (alHeldK_len l (alLim glob drift) k)
      generalize alHeldK l (alLim glob drift) k = hs at *
      go_wp2_with fail
      refine (align_Paused g b drift glob l k wr (HH.out.below hbw)).mono ?_
      rintro e w' ⟨rfl, nd, rfl⟩
      have hbw' := bel_drewN hbw nd
      have HO' := hid' (show (wr.drewN nd).ownsRow w.heap.size 3 1 _ _ _ from HO.out)
      clear HO hbw
      by_cases hp : alPaused l (alLim glob drift) (k : Int) = true
      · rw [hp]
        have HP := hid' (show alHeldK l (alLim glob drift) (k + 1) = hs ++ [(k : Int)] by rw [HS.out, if_pos hp])
        have hlen : (hs.length + 1) * 8 ≤ 140737488355328 := by have := HL.out; omega
        have hsz := hbw'.size
        clear hp
        go_wp2_with (at_builtin; go_loud (refine ap_cells w.heap.size rfl (.tmp 16) (.tmp 18) 99 3 (.int .i64 0) 1 8 rfl (by kernel_rfl) (by kernel_rfl) rfl (by decide) (by decide) _ hs.length (hs.map (.int .i64)) [(.int .i64 k)] rfl rfl rfl (by intro u hu; rw [List.mem_singleton] at hu; subst hu; rfl) HO'.out hsz hlen ?_); intro v1 w1 hown hg hat)
        have hbl := bel_mod hbw' (Mod.of_grown hg) (fun i hi e => by have := own_base' HO'.out i e; omega)
        have HO2 := hid' hown
        clear hown hg hat
        go_roundw
        case rel => exact ⟨k + 1, by omega, by go_num, hbl, by rw [HP.out]; simpa using HO2.out⟩
        case measure => simp [intOf]; omega
      · have HP := hid' (show alHeldK l (alLim glob drift) (k + 1) = hs by rw [HS.out, if_neg hp, List.append_nil])
        rw [Bool.not_eq_true] at hp
        rw [hp]
        clear hp
        go_wp2
        go_roundw
        case rel => exact ⟨k + 1, by omega, by go_num, hbw', by rw [HP.out]; exact HO'.out⟩
        case measure => simp [intOf]; omega
    · have hkl : k = l.length := by omega
      subst hkl
      go_wp2
      go_ret
      exact ⟨_, rfl, HO.out, hbw⟩
def alFreeK (l was : List Int) (lim : Int) (k : Nat) : List Int := (was.take k).filter (fun i => !alPaused l lim i)
theorem align_Global (g b : Nat) (drift glob at_ : Int) (l : List Int) (w : World) (h : AlignB w g b drift glob l) (hn : l.length ≤ 1000) (ha : I64 at_) :
    Calls Tryz.prog 95 #[.pointer (some ⟨g, 0, none⟩), .int .i64 at_] w fun e w' => ∃ v, e = .returned v ∧
      w'.ownsRow w.heap.size 3 1 v ((alHeld l (alLim glob drift)).filter (fun i => !alPaused l (alLim at_ drift) i)).length (((alHeld l (alLim glob drift)).filter (fun i => !alPaused l (alLim at_ drift) i)).map (.int .i64)) ∧
      AlignB w' g b drift at_ l ∧ Mod (fun k => k = g) w w' := by
  have HH := hid' h
  have hf := h.1.frozen 1
  have hgl := h.1.lt
  have hbl := h.2.1.lt
  have HLE := hid' (alHeldK_len l (alLim glob drift) l.length)
  change Hid ((alHeld l (alLim glob drift)).length ≤ l.length) at HLE
  clear h
  go_enter Tryz.func95, Tryz.ntmps95
  go_wp2_with fail
  refine (align_Held g b drift glob l w HH.out hn).mono ?_
  rintro e w1 ⟨v, rfl, hown, hb1⟩
  obtain ⟨A, c, rfl, _, _, hrd⟩ := own_rd hown
  generalize hwas : alHeld l (alLim glob drift) = was at *
  have HWAS := hid' hwas
  clear hwas
  have hA1 := HH.out.below hb1
  have hc1 : w1.cell? ⟨g, 1, none⟩ = some (.int .i64 glob) := by simpa using hA1.1.cell 1
  have hf1 := hA1.1.frozen 1
  have hA2 : AlignB (w1.setCell ⟨g, 1, none⟩ (.int .i64 at_)) g b drift at_ l := ⟨(hA1.1.set 1 _).cast (by simp), hA1.2.1.far (p := ⟨g, 1, none⟩) (fun e => hA1.ne e.symm) _, hA1.2.2.1, ha⟩
  have hm2 := (Mod.of_below (S := fun k => k = g) hb1).setCell (p := ⟨g, 1, none⟩) (fun _ => rfl) (.int .i64 at_)
  have hno := own_ne' hown hA1.1 (by decide)
  have hown2 := own_set' hown (p := ⟨g, 1, none⟩) hno (.int .i64 at_)
  obtain ⟨A', c', e', _, _, hrd2⟩ := own_rd hown2
  injection e' with e1 _ e2
  subst e1 e2
  have HA2 := hid' hA2
  have HM2 := hid' hm2
  have HR2 := hid' hrd2
  have hwl : was.length ≤ 1000 := by have := HLE.out; omega
  have hsz1 := hb1.size
  clear hA1 hA2 hm2 hown2 hrd hrd2 hno hown hb1
  go_wp2
  clear hc1 hf1 hf
  generalize hW : w1.setCell ⟨g, 1, none⟩ (.int .i64 at_) = w2 at *
  have hsz2 : w.heap.size ≤ w2.heap.size := HM2.out.size
  clear hW hsz1
  go_loopw [5, 17] (fun v5 v17 wr => ∃ k : Nat, k ≤ was.length ∧ v17 = .int .i64 k ∧ Below w2.heap.size w2 wr ∧
    wr.ownsRow w2.heap.size 3 1 v5 (alFreeK l was (alLim at_ drift) k).length ((alFreeK l was (alLim at_ drift) k).map (.int .i64))) (fun _ v17 _ => was.length - (intOf v17).toNat)
  case atStart => exact ⟨0, Nat.zero_le _, rfl, bel_refl _, own_nil' _ _ _ _⟩
  case round =>
    obtain ⟨k, hk, rfl, hbw, hown⟩ := hrel
    have HO := hid' hown
    clear hown
    by_cases hlt : k < was.length
    · obtain ⟨ad, x, rfl, hx, hcx⟩ := Rd.at_ (HR2.out.below hbw) hlt
      have HS := hid' (show alFreeK l was (alLim at_ drift) (k + 1) = alFreeK l was (alLim at_ drift) k ++ [x].filter (fun i => !alPaused l (alLim at_ drift) i) by
        unfold alFreeK; rw [take_snoc' hx, List.filter_append])
      have HL := hid' (show (alFreeK l was (alLim at_ drift) k).length ≤ k from Nat.le_trans (List.length_filter_le _ _) (List.length_take_le _ _))
      generalize alFreeK l was (alLim at_ drift) k = hs at *
      clear hx
      go_wp2_with fail
      refine (align_Paused g b drift at_ l x wr (HA2.out.below hbw)).mono ?_
      rintro e w' ⟨rfl, nd, rfl⟩
      have hbw' := bel_drewN hbw nd
      have HO' := hid' (show (wr.drewN nd).ownsRow w2.heap.size 3 1 _ _ _ from HO.out)
      clear HO hbw
      by_cases hp : alPaused l (alLim at_ drift) x = true
      · have HP := hid' (show alFreeK l was (alLim at_ drift) (k + 1) = hs by rw [HS.out]; simp [hp])
        rw [hp]
        clear hp
        go_wp2
        go_roundw
        case rel => exact ⟨k + 1, by omega, by go_num, hbw', by rw [HP.out]; exact HO'.out⟩
        case measure => simp [intOf]; omega
      · rw [Bool.not_eq_true] at hp
        rw [hp]
        have HP := hid' (show alFreeK l was (alLim at_ drift) (k + 1) = hs ++ [x] by rw [HS.out]; simp [hp])
        have hlen : (hs.length + 1) * 8 ≤ 140737488355328 := by have := HL.out; omega
        have hsz := hbw'.size
        clear hp
        go_wp2_with (at_builtin; go_loud (refine ap_cells w2.heap.size rfl (.tmp 25) (.tmp 27) 99 3 (.int .i64 0) 1 8 rfl (by kernel_rfl) (by kernel_rfl) rfl (by decide) (by decide) _ hs.length (hs.map (.int .i64)) [(.int .i64 x)] rfl rfl rfl (by intro u hu; rw [List.mem_singleton] at hu; subst hu; rfl) HO'.out hsz hlen ?_); intro v1 w1 hown hg hat)
        have hbl := bel_mod hbw' (Mod.of_grown hg) (fun i hi e => by have := own_base' HO'.out i e; omega)
        have HO2 := hid' hown
        clear hown hg hat
        go_roundw
        case rel => exact ⟨k + 1, by omega, by go_num, hbl, by rw [HP.out]; simpa using HO2.out⟩
        case measure => simp [intOf]; omega
    · have HF := hid' (show alFreeK l was (alLim at_ drift) k = was.filter (fun i => !alPaused l (alLim at_ drift) i) by unfold alFreeK; rw [List.take_of_length_le (by omega)])
      go_wp2
      go_ret
      exact ⟨_, rfl, by rw [HWAS.out, ← HF.out]; exact own_lower HO.out hsz2, HA2.out.below hbw, HM2.out.trans (Mod.of_below hbw)⟩
end Go.Proofs.YtockkjhciojgbaaGreatDoor
