
/- What the functions of punct do to their block, walked. No condition but the tables of Go's own. -/
import Derived.Test.YtockkjhciojgbaaGreatDoorSignHas
import Derived.Test.YtockkjhciojgbaaGreatDoorClamp
import Derived.Test.YtockkjhciojgbaaGreatDoorRecRow
import Derived.Deep.RegionHeld3
import Derived.BigRegion
namespace Go.Proofs.YtockkjhciojgbaaGreatDoor
set_option maxRecDepth 100000
set_option linter.unusedSimpArgs false
open Go.RowKit
set_option linter.unusedVariables false
set_option linter.unusedSimpArgs false

def pSays (r : Rec) (sign : Int) : Bool := r.1 == 2 || hasB r.2.2 sign
def PuGen (w : World) (g : Nat) (sign now : Int) : Prop := ∃ a s, Blk w g 188 #[.int .i64 sign, .int .i64 a, .bool s] ∧ clNow a s = now ∧ I64 a
theorem PuGen.mod {w w' : World} {g : Nat} {sign now : Int} {S : Nat → Prop} (h : PuGen w g sign now) (hm : Mod S w w') (hs : ¬ S g) : PuGen w' g sign now := by
  obtain ⟨a, s, hb, h⟩ := h
  exact ⟨a, s, hb.mod hm hs, h⟩
theorem PuGen.below {w w' : World} {g : Nat} {sign now : Int} (h : PuGen w g sign now) (hm : Below w.heap.size w w') : PuGen w' g sign now := by
  obtain ⟨a, s, hb, h⟩ := h
  exact ⟨a, s, hb.below hm, h⟩
theorem PuGen.lt {w : World} {g : Nat} {sign now : Int} (h : PuGen w g sign now) : g < w.heap.size := by
  obtain ⟨a, s, hb, h⟩ := h
  exact hb.lt
theorem punct_New (sign : Int) (w : World) :
    Calls Tryz.prog 83 #[.int .i64 sign] w fun e w' => ∃ g, e = .returned (.pointer (some ⟨g, 0, none⟩)) ∧ w.heap.size ≤ g ∧ PuGen w' g sign NEV ∧ Below w.heap.size w w' := by
  go_enter Tryz.func83, Tryz.ntmps83
  go_wp2
  go_ret
  exact ⟨w.heap.size, rfl, Nat.le_refl _, ⟨0, false, Blk.new_ _ _ _, rfl, (by unfold I64 at *; omega)⟩, (by repeat (first | assumption | apply bel_alloc | apply bel_drewN | apply bel_drew | exact bel_refl _))⟩
theorem punct_Now (g : Nat) (sign now : Int) (w : World) (h : PuGen w g sign now) :
    Calls Tryz.prog 204 #[.pointer (some ⟨g, 0, none⟩)] w fun e w' => e = .returned (.int .i64 now) ∧ w = w' := by
  obtain ⟨a, s, hb, rfl, h1⟩ := h
  go_enter Tryz.func204, Tryz.ntmps204
  go_wp2_with fail
  refine (clamp_Now g 1 a s _ (by simpa using hb.cell 1) (by simpa using hb.cell 2)).mono ?_
  rintro e w' ⟨rfl, rfl⟩
  go_wp2
  go_ret
  exact ⟨rfl, rfl⟩
set_option maxHeartbeats 1000000 in
theorem punct_Says (kd tm : Int) (x : ByteArray) (sign : Int) (w : World) (hx : x.size ≤ 200000) (hn : I64 sign) (hT : U8T w) :
    Calls Tryz.prog 206 #[.agg #[.int .i64 kd, .int .i64 tm, .string x], .int .i64 sign] w fun e w' => e = .returned (.bool (pSays (kd, tm, x) sign)) ∧ Below w.heap.size w w' := by
  have hb0 := bel_alloc (bel_refl w) (.cells #[.int .i64 kd, .int .i64 tm, .string x] 106)
  have HB0 := hid' hb0
  have HH := hid' (quote_Has x sign _ hx hn (hT.below hb0))
  have hp : pSays (kd, tm, x) sign = (kd == 2 || hasB x sign) := rfl
  rw [hp]
  clear hp hb0 hT
  by_cases hk : kd = 2
  · subst hk
    go_enter Tryz.func206, Tryz.ntmps206
    go_wp2
    go_ret
    exact ⟨rfl, HB0.out⟩
  · have h1 : (kd == 2) = false := by simpa using hk
    clear hk
    go_enter Tryz.func206, Tryz.ntmps206
    go_wp2_with (go_at_call 207; refine HH.out.mono ?_; rintro e w1 ⟨rfl, hB1⟩)
    go_ret
    refine ⟨?_, bel_then HB0.out hB1⟩
    rw [h1]; rfl
set_option maxHeartbeats 4000000 in
theorem punct_Seen (g : Nat) (sign now kd tm : Int) (x : ByteArray) (w : World) (h : PuGen w g sign now) (hx : x.size ≤ 200000) (hn : I64 sign) (ht : I64 tm) (hT : U8T w) :
    Calls Tryz.prog 205 #[.pointer (some ⟨g, 0, none⟩), .agg #[.int .i64 kd, .int .i64 tm, .string x]] w fun e w' =>
      e = .returned (.tuple #[]) ∧ PuGen w' g sign (if pSays (kd, tm, x) sign = true then max now tm else now) ∧ Mod (fun k => k = g) w w' := by
  have hg := h
  obtain ⟨a, s, hb, rfl, h1⟩ := h
  have HN := hid' (clNow_raise a s tm)
  have HI := hid' (I64.clA (s := s) h1 ht)
  have hbel := bel_alloc (bel_refl w) (.cells #[.int .i64 kd, .int .i64 tm, .string x] 106)
  have hb1 := hb.alloc (.cells #[.int .i64 kd, .int .i64 tm, .string x] 106)
  have hbox := Blk.new_ w 106 #[.int .i64 kd, .int .i64 tm, .string x]
  have hm1 := (Mod.refl (fun k => k = g) w).alloc (.cells #[.int .i64 kd, .int .i64 tm, .string x] 106)
  have hgne : g ≠ w.heap.size := by have := hb.lt; omega
  have hgne' : w.heap.size ≠ g := by omega
  have HT1 := hid' (hT.below hbel)
  obtain ⟨sy, hsy⟩ : ∃ sy, sy = pSays (kd, tm, x) sign := ⟨_, rfl⟩
  rw [← hsy]
  have HSY := hid' hsy
  clear hbel hT hg hsy
  go_enter Tryz.func205, Tryz.ntmps205
  go_wp2_with fail
  generalize w.alloc (.cells #[.int .i64 kd, .int .i64 tm, .string x] 106) = w1 at *
  generalize w.heap.size = b at *
  have c0 : w1.cell? ⟨b, 0, none⟩ = some (.int .i64 kd) := by simpa using hbox.cell 0
  have c1 : w1.cell? ⟨b, 1, none⟩ = some (.int .i64 tm) := by simpa using hbox.cell 1
  have c2 : w1.cell? ⟨b, 2, none⟩ = some (.string x) := by simpa using hbox.cell 2
  have d0 : w1.cell? ⟨g, 0, none⟩ = some (.int .i64 sign) := by simpa using hb1.cell 0
  have HSA := hid' (fun W (hd : Dr w1 W) => punct_Says kd tm x sign W hx hn (HT1.out.below hd.below))
  rw [← HSY.out] at HSA
  have HM1 := hid' hm1
  have HB1 := hid' hb1
  have HBX := hid' hbox
  clear hb hb1 hbox hm1
  go_region_with (go_at_call 206; refine (HSA.out _ (by repeat (first | exact Dr.refl _ | apply Dr.step | apply Dr.stepd))).mono ?_; rintro e w2 ⟨rfl, hB2⟩
                  have HBW := hid' (show Below w1.heap.size w1 w2 from bel_then (by first | exact bel_drewN (bel_refl w1) _ | exact bel_drew (bel_drew (bel_refl w1)) | exact bel_drew (bel_refl w1)) hB2))
  all_goals
    have HM2 := hid' (HM1.out.trans (Mod.of_below (S := fun k => k = g) HBW.out))
    have HB2 := hid' (HB1.out.below HBW.out)
    have HBX2 := hid' (HBX.out.below HBW.out)
    have e1 : w2.cell? ⟨b, 1, none⟩ = some (.int .i64 tm) := by simpa using HBX2.out.cell 1
    clear c0 c1 c2 d0
    cases sy with
    | false =>
      go_wp2
      go_end0
      exact ⟨rfl, ⟨a, s, HB2.out, rfl, h1⟩, HM2.out⟩
    | true =>
      go_wp2_with fail
      go_region_held3 (fun w' => w'.cell? ⟨b, 1, none⟩ = some (.int .i64 tm))
        (first | go_keep | exact hcell)
        ((go_at_call 132; refine (clamp_RaiseI g 1 _ _ a s tm w2.drew HB2.out.drew rfl rfl).mono ?_; rintro e w3 ⟨rfl, hb3, hm3⟩; have hcell := hm3.cell e1 hgne'))
      have HM3 := hid' (HM2.out.trans ((Mod.refl _ w2).drew.trans hm3))
      have HB3 := hid' (hb3.cast (cs' := #[.int .i64 sign, .int .i64 (clA a s tm), .bool (clS a s tm)]) rfl)
      clear hb3 hm3 hcell
      go_wp2
      go_end0
      exact ⟨rfl, ⟨_, _, HB3.out, HN.out, HI.out⟩, HM3.out⟩
end Go.Proofs.YtockkjhciojgbaaGreatDoor
