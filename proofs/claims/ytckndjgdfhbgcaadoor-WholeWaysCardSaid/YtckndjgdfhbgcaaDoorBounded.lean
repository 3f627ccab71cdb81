
/- What the functions of bounded do to their block, and what their reference answers. No condition. -/
import Derived.Test.YtckndjgdfhbgcaaDoorClamp
import Derived.Deep.RegionHeld3
import Derived.BigRegion
namespace Go.Proofs.YtckndjgdfhbgcaaDoor
set_option maxRecDepth 100000
set_option linter.unusedSimpArgs false
open Go.RowKit
set_option linter.unusedVariables false

theorem clamp_RaiseX (g o : Nat) (a : Int) (s : Bool) (n : Int) (w : World) (hc : w.cell? ⟨g, o, none⟩ = some (.int .i64 a)) (hs : w.cell? ⟨g, o + 1, none⟩ = some (.bool s))
    (hf : w.frozen? ⟨g, o, none⟩ = false) (hf' : w.frozen? ⟨g, o + 1, none⟩ = false) :
    Calls Tryd.prog 21 #[.pointer (some ⟨g, o, none⟩), .int .i64 n] w fun e w' => e = .returned (.bool (decide (clNow a s < n))) ∧ (w.setCell ⟨g, o, none⟩ (.int .i64 (clA a s n))).setCell ⟨g, o + 1, none⟩ (.bool (clS a s n)) = w' :=
  clamp_Raise g o a s n w hc hs hf hf'

def bAfter (most bound : Int) : Int := satSub (satSub most bound) 1
theorem I64.bAfter (a b : Int) : I64 (bAfter a b) := I64.satSub _ _
theorem bounded_After (most bound : Int) (w : World) (hm : I64 most) (hb : I64 bound) :
    Calls Tryd.prog 24 #[.int .i64 most, .int .i64 bound] w fun e w' => e = .returned (.int .i64 (bAfter most bound)) ∧ w = w' := by
  go_enter Tryd.func24, Tryd.ntmps24
  go_wp2_with fail
  refine (sat_Sub most bound _ hm hb).mono ?_
  rintro e w' ⟨rfl, rfl⟩
  go_wp2_with fail
  refine (sat_Sub (satSub most bound) 1 _ (I64.satSub _ _) (by unfold I64 at *; omega)).mono ?_
  rintro e w' ⟨rfl, rfl⟩
  go_wp2
  go_ret
  exact ⟨rfl, rfl⟩

/-- The block of such a way: its bound, how far time has come, and the latest of all times. -/
def BGen (w : World) (g : Nat) (bound now most : Int) : Prop :=
  ∃ a1 s1 a2 s2, Blk w g 46 #[.int .i64 bound, .int .i64 a1, .bool s1, .int .i64 a2, .bool s2] ∧ clNow a1 s1 = now ∧ clNow a2 s2 = most ∧ I64 bound ∧ I64 a1 ∧ I64 a2
theorem BGen.mod {w w' : World} {g : Nat} {bound now most : Int} {S : Nat → Prop} (h : BGen w g bound now most) (hm : Mod S w w') (hs : ¬ S g) : BGen w' g bound now most := by
  obtain ⟨a1, s1, a2, s2, hb, h⟩ := h
  exact ⟨a1, s1, a2, s2, hb.mod hm hs, h⟩
theorem BGen.now {w : World} {g : Nat} {bound now most : Int} (h : BGen w g bound now most) : I64 now ∧ I64 most ∧ I64 bound := by
  obtain ⟨a1, s1, a2, s2, _, rfl, rfl, h1, h2, h3⟩ := h
  exact ⟨I64.clNow h2, I64.clNow h3, h1⟩

theorem bounded_New (bound : Int) (w : World) (hb : I64 bound) :
    Calls Tryd.prog 13 #[.int .i64 bound] w fun e w' => ∃ g, e = .returned (.pointer (some ⟨g, 0, none⟩)) ∧ w.heap.size ≤ g ∧ BGen w' g bound NEV NEV ∧ Below w.heap.size w w' := by
  go_enter Tryd.func13, Tryd.ntmps13
  go_wp2
  go_ret
  refine ⟨w.heap.size, rfl, Nat.le_refl _, ⟨0, false, 0, false, ?_, rfl, rfl, hb, (by unfold I64 at *; omega), (by unfold I64 at *; omega)⟩, (by repeat (first | assumption | apply bel_alloc | apply bel_drewN | apply bel_drew | exact bel_refl _))⟩
  exact Blk.new_ _ _ _
theorem bounded_Now (g : Nat) (bound now most : Int) (w : World) (h : BGen w g bound now most) :
    Calls Tryd.prog 18 #[.pointer (some ⟨g, 0, none⟩)] w fun e w' => e = .returned (.int .i64 now) ∧ w = w' := by
  obtain ⟨a1, s1, a2, s2, hb, rfl, rfl, h1, h2, h3⟩ := h
  go_enter Tryd.func18, Tryd.ntmps18
  go_wp2_with fail
  refine (clamp_Now g 1 a1 s1 _ (by simpa using hb.cell 1) (by simpa using hb.cell 2)).mono ?_
  rintro e w' ⟨rfl, rfl⟩
  go_wp2
  go_ret
  exact ⟨rfl, rfl⟩
theorem bounded_Seen (g : Nat) (bound now most kind t : Int) (txt : ByteArray) (w : World) (h : BGen w g bound now most) (ht : I64 t) :
    Calls Tryd.prog 15 #[.pointer (some ⟨g, 0, none⟩), .agg #[.int .i64 kind, .int .i64 t, .string txt]] w fun e w' =>
      e = .returned (.tuple #[]) ∧ BGen w' g bound (max now (bAfter (max most t) bound)) (max most t) ∧ Mod (fun k => k = g) w w' := by
  obtain ⟨a1, s1, a2, s2, hb, rfl, rfl, h1, h2, h3⟩ := h
  have HN := hid' (clNow_raise a2 s2 t)
  have HR := hid' (clNow_raise a1 s1 (bAfter (max (clNow a2 s2) t) bound))
  have HI2 := hid' (I64.clA (s := s2) h3 ht)
  have HI1 := hid' (I64.clA (s := s1) h2 (I64.bAfter (max (clNow a2 s2) t) bound))
  have HMi := hid' (I64.clNow (s := clS a2 s2 t) HI2.out)
  rw [HN.out] at HMi
  have hb1 := hb.alloc (.cells #[.int .i64 kind, .int .i64 t, .string txt] 27)
  have hbox := Blk.new_ w 27 #[.int .i64 kind, .int .i64 t, .string txt]
  have hm1 := (Mod.refl (fun k => k = g) w).alloc (.cells #[.int .i64 kind, .int .i64 t, .string txt] 27)
  have hgne : g ≠ w.heap.size := by have := hb.lt; omega
  have hgne' : w.heap.size ≠ g := by omega
  go_enter Tryd.func15, Tryd.ntmps15
  go_wp2_with fail
  generalize w.alloc (.cells #[.int .i64 kind, .int .i64 t, .string txt] 27) = w1 at *
  generalize w.heap.size = b at *
  have cb : w1.cell? ⟨b, 1, none⟩ = some (.int .i64 t) := by simpa using hbox.cell 1
  have HM1 := hid' hm1
  have HB1 := hid' hb1
  clear hb hb1 hbox hm1
  go_region_held3 (fun w' => w'.cell? ⟨b, 1, none⟩ = some (.int .i64 t))
    (first | go_keep | exact hcell)
    ((go_at_call 21; refine (clamp_RaiseI g 3 _ _ a2 s2 t w1.drew HB1.out.drew rfl rfl).mono ?_; rintro e w2 ⟨rfl, hb2, hm2⟩; have hcell := hm2.cell cb hgne'))
  have HM2 := hid' (HM1.out.trans ((Mod.refl _ w1).drew.trans hm2))
  have HB2 := hid' (hb2.cast (cs' := #[.int .i64 bound, .int .i64 a1, .bool s1, .int .i64 (clA a2 s2 t), .bool (clS a2 s2 t)]) rfl)
  have c0 : w2.cell? ⟨g, 0, none⟩ = some (.int .i64 bound) := by simpa using HB2.out.cell 0
  clear hb2 hm2 hcell cb HM1 HB1
  go_wp2_with fail
  go_region_held3 (fun w' => w'.cell? ⟨g, 0, none⟩ = some (.int .i64 bound))
    (first | go_keep | exact hcell)
    (first
      | (go_at_call 22; refine (clamp_NowI g 3 _ _ (clA a2 s2 t) (clS a2 s2 t) w2.drew HB2.out.drew rfl rfl).mono ?_; rintro e w' ⟨rfl, rfl⟩; rw [HN.out])
      | (go_at_call 24; refine (bounded_After (max (clNow a2 s2) t) bound _ HMi.out h1).mono ?_; rintro e w' ⟨rfl, rfl⟩)
      | (go_at_call 21; refine (clamp_RaiseI g 1 _ _ a1 s1 (bAfter (max (clNow a2 s2) t) bound) w2.drew HB2.out.drew rfl rfl).mono ?_; rintro e w3 ⟨rfl, hb3, hm3⟩; have hcell : w3.cell? ⟨g, 0, none⟩ = some (.int .i64 bound) := by simpa using hb3.cell 0))
  have HM3 := hid' (HM2.out.trans ((Mod.refl _ w2).drew.trans hm3))
  have HB3 := hid' (hb3.cast (cs' := #[.int .i64 bound, .int .i64 (clA a1 s1 (bAfter (max (clNow a2 s2) t) bound)), .bool (clS a1 s1 (bAfter (max (clNow a2 s2) t) bound)), .int .i64 (clA a2 s2 t), .bool (clS a2 s2 t)]) rfl)
  clear hb3 hm3 hcell c0
  go_wp2
  go_end0
  exact ⟨rfl, ⟨_, _, _, _, HB3.out, HR.out, HN.out, h1, HI1.out, HI2.out⟩, HM3.out⟩
end Go.Proofs.YtckndjgdfhbgcaaDoor
