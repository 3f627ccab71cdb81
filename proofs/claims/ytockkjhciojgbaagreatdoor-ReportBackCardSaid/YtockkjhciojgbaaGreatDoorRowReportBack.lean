/- The law ReportBack as it is given: for every input the call answers true, and each argument reads as it did. No condition. -/
import Derived.Test.YtockkjhciojgbaaGreatDoorOpenSh
import Derived.Test.YtockkjhciojgbaaGreatDoorCards
import Derived.Test.YtockkjhciojgbaaGreatDoorTie
import Derived.Test.YtockkjhciojgbaaGreatDoorRows
import Derived.Test.YtockkjhciojgbaaGreatDoorLawRepB
import Derived.Test.YtockkjhciojgbaaGreatDoorOpen
import Derived.WalkKit
import Derived.LaidMore
import Derived.Lay
import Derived.SevenTiedAt
import Derived.Stop.Joined
import Derived.ProofKit
import Derived.OpenShut
import Derived.ShutString
import Derived.ChangeOld
import Derived.Below
import Derived.SizedLaws
namespace Go.Proofs.YtockkjhciojgbaaGreatDoor.reportBack
open Go.ChangeShapes Go.WideShapes Go.ChangeAt Go.RowKit
set_option linter.unusedVariables false
set_option maxRecDepth 100000
theorem own : ownKnob Tryz.prog.godebug = none := by kernel_rfl
theorem laidOut : laidOutB Tryz.prog = true := by kernel_rfl
def Rst24 (w : World) (cs : List Value) (x : (Int × Int × Int × Int × Int)) : Prop := cs.length = 5 ∧ (RInt .i64) w ((cs.drop 0).take 1) x.1 ∧ (RInt .i64) w ((cs.drop 1).take 1) x.2.1 ∧ (RInt .i64) w ((cs.drop 2).take 1) x.2.2.1 ∧ (RInt .i64) w ((cs.drop 3).take 1) x.2.2.2.1 ∧ (RInt .i64) w ((cs.drop 4).take 1) x.2.2.2.2
theorem opens_st24 {H : Type} {enc : TypeId × Value → H} {w : World} : Opens enc Tryz.prog w 24 Rst24 := by
  intro fuel cs y h
  obtain ⟨xs, n, _, _, hl, hxl, hel⟩ := DataW.trod_struct Tryz.underlying24 h
  have hcs : cs.length = 5 := hl.trans (by kernel_rfl)
  have hx0 : 0 < xs.length := by rw [hxl]; decide
  have h0 := hel 0 _ rfl
  rw [List.getElem?_eq_getElem hx0] at h0
  obtain ⟨x0, g0⟩ := (show Opens enc Tryz.prog w 3 (RInt .i64) from (opens_int Tryz.underlying3)) _ _ _ h0
  have hx1 : 1 < xs.length := by rw [hxl]; decide
  have h1 := hel 1 _ rfl
  rw [List.getElem?_eq_getElem hx1] at h1
  obtain ⟨x1, g1⟩ := (show Opens enc Tryz.prog w 3 (RInt .i64) from (opens_int Tryz.underlying3)) _ _ _ h1
  have hx2 : 2 < xs.length := by rw [hxl]; decide
  have h2 := hel 2 _ rfl
  rw [List.getElem?_eq_getElem hx2] at h2
  obtain ⟨x2, g2⟩ := (show Opens enc Tryz.prog w 3 (RInt .i64) from (opens_int Tryz.underlying3)) _ _ _ h2
  have hx3 : 3 < xs.length := by rw [hxl]; decide
  have h3 := hel 3 _ rfl
  rw [List.getElem?_eq_getElem hx3] at h3
  obtain ⟨x3, g3⟩ := (show Opens enc Tryz.prog w 3 (RInt .i64) from (opens_int Tryz.underlying3)) _ _ _ h3
  have hx4 : 4 < xs.length := by rw [hxl]; decide
  have h4 := hel 4 _ rfl
  rw [List.getElem?_eq_getElem hx4] at h4
  obtain ⟨x4, g4⟩ := (show Opens enc Tryz.prog w 3 (RInt .i64) from (opens_int Tryz.underlying3)) _ _ _ h4
  exact ⟨(x0, x1, x2, x3, x4), hcs, g0, g1, g2, g3, g4⟩
def Rst27 (w : World) (cs : List Value) (x : ((List (Int × Int × Int × Int × Int)) × Int × Int)) : Prop := cs.length = 3 ∧ (RSl 5 Rst24) w ((cs.drop 0).take 1) x.1 ∧ (RInt .i64) w ((cs.drop 1).take 1) x.2.1 ∧ (RInt .i64) w ((cs.drop 2).take 1) x.2.2
theorem opens_st27 {H : Type} {enc : TypeId × Value → H} {w : World} : Opens enc Tryz.prog w 27 Rst27 := by
  intro fuel cs y h
  obtain ⟨xs, n, _, _, hl, hxl, hel⟩ := DataW.trod_struct Tryz.underlying27 h
  have hcs : cs.length = 3 := hl.trans (by kernel_rfl)
  have hx0 : 0 < xs.length := by rw [hxl]; decide
  have h0 := hel 0 _ rfl
  rw [List.getElem?_eq_getElem hx0] at h0
  obtain ⟨x0, g0⟩ := (show Opens enc Tryz.prog w 25 (RSl 5 Rst24) from (opens_slice Tryz.underlying25 (by kernel_rfl) opens_st24)) _ _ _ h0
  have hx1 : 1 < xs.length := by rw [hxl]; decide
  have h1 := hel 1 _ rfl
  rw [List.getElem?_eq_getElem hx1] at h1
  obtain ⟨x1, g1⟩ := (show Opens enc Tryz.prog w 3 (RInt .i64) from (opens_int Tryz.underlying3)) _ _ _ h1
  have hx2 : 2 < xs.length := by rw [hxl]; decide
  have h2 := hel 2 _ rfl
  rw [List.getElem?_eq_getElem hx2] at h2
  obtain ⟨x2, g2⟩ := (show Opens enc Tryz.prog w 3 (RInt .i64) from (opens_int Tryz.underlying3)) _ _ _ h2
  exact ⟨(x0, x1, x2), hcs, g0, g1, g2⟩
def Rst52 (w : World) (cs : List Value) (x : (Bool × Int)) : Prop := cs.length = 2 ∧ RBool w ((cs.drop 0).take 1) x.1 ∧ (RInt .i64) w ((cs.drop 1).take 1) x.2
theorem opens_st52 {H : Type} {enc : TypeId × Value → H} {w : World} : Opens enc Tryz.prog w 52 Rst52 := by
  intro fuel cs y h
  obtain ⟨xs, n, _, _, hl, hxl, hel⟩ := DataW.trod_struct Tryz.underlying52 h
  have hcs : cs.length = 2 := hl.trans (by kernel_rfl)
  have hx0 : 0 < xs.length := by rw [hxl]; decide
  have h0 := hel 0 _ rfl
  rw [List.getElem?_eq_getElem hx0] at h0
  obtain ⟨x0, g0⟩ := (show Opens enc Tryz.prog w 4 RBool from (opens_bool Tryz.underlying4)) _ _ _ h0
  have hx1 : 1 < xs.length := by rw [hxl]; decide
  have h1 := hel 1 _ rfl
  rw [List.getElem?_eq_getElem hx1] at h1
  obtain ⟨x1, g1⟩ := (show Opens enc Tryz.prog w 3 (RInt .i64) from (opens_int Tryz.underlying3)) _ _ _ h1
  exact ⟨(x0, x1), hcs, g0, g1⟩
def Rst34 (w : World) (cs : List Value) (x : (((List (Int × Int × Int × Int × Int)) × Int × Int) × (List ByteArray) × (List (Bool × Int)))) : Prop := cs.length = 5 ∧ Rst27 w ((cs.drop 0).take 3) x.1 ∧ (RSl 1 RStr) w ((cs.drop 3).take 1) x.2.1 ∧ (RSl 2 Rst52) w ((cs.drop 4).take 1) x.2.2
theorem opens_st34 {H : Type} {enc : TypeId × Value → H} {w : World} : Opens enc Tryz.prog w 34 Rst34 := by
  intro fuel cs y h
  obtain ⟨xs, n, _, _, hl, hxl, hel⟩ := DataW.trod_struct Tryz.underlying34 h
  have hcs : cs.length = 5 := hl.trans (by kernel_rfl)
  have hx0 : 0 < xs.length := by rw [hxl]; decide
  have h0 := hel 0 _ rfl
  rw [List.getElem?_eq_getElem hx0] at h0
  obtain ⟨x0, g0⟩ := (show Opens enc Tryz.prog w 27 Rst27 from opens_st27) _ _ _ h0
  have hx1 : 1 < xs.length := by rw [hxl]; decide
  have h1 := hel 1 _ rfl
  rw [List.getElem?_eq_getElem hx1] at h1
  obtain ⟨x1, g1⟩ := (show Opens enc Tryz.prog w 29 (RSl 1 RStr) from (opens_slice Tryz.underlying29 (by kernel_rfl) (opens_string Tryz.underlying9))) _ _ _ h1
  have hx2 : 2 < xs.length := by rw [hxl]; decide
  have h2 := hel 2 _ rfl
  rw [List.getElem?_eq_getElem hx2] at h2
  obtain ⟨x2, g2⟩ := (show Opens enc Tryz.prog w 30 (RSl 2 Rst52) from (opens_slice Tryz.underlying30 (by kernel_rfl) opens_st52)) _ _ _ h2
  exact ⟨(x0, x1, x2), hcs, g0, g1, g2⟩
theorem met (os : Os) (args : Array Value) : laidMetH Tryz.prog Rows.reportBackRow.laid ((World.laidAll Tryz.prog os Rows.reportBackRow.laid).forCall (fun _ _ => 0) ⟨#[], args, []⟩).memory := by
  rw [MakeChecks.laidMetH_plain _ _ _ (by kernel_rfl)]; exact laidMet_laidAll _ (by kernel_rfl) (by kernel_rfl)
theorem lifted (os : Os) (started : os.Started) (H : Type) (enc : TypeId × Value → H) :
    ReturnsInHanded {} Tryz.checked os 4 .any (fun w args => (Rows.reportBackSpec.pre enc Tryz.prog Tryz.f4 Rows.reportBackRow.domain false w args ∧ laidMetH Tryz.prog Rows.reportBackRow.laid w) ∧ sizedMet enc Tryz.prog Tryz.f4 (OpenSpec.ofChange Rows.reportBackSpec) false w args) (Rows.reportBackSpec.post enc Tryz.prog Tryz.f4 false true false false) := by
  refine change_and_shaped (C := Tryz.checked) (X := fun w _ => laidMetH Tryz.prog Rows.reportBackRow.laid w) (fun _ _ _ hh h => h.of_heap hh) own started (by kernel_rfl) Tryz.func4
    (ChangeSpec.witness_shaped (enc := enc) (C := Tryz.checked) (os := os) (X := fun w _ => laidMetH Tryz.prog Rows.reportBackRow.laid w) false (World.laidAll Tryz.prog os Rows.reportBackRow.laid) #[.agg #[.slice none 0 0, .int .i64 0, .int .i64 0, .slice none 0 0, .slice none 0 0]] 8 (World.laidAll_os _ _ _) (World.shaped_of_ZipB (by kernel_rfl) (by kernel_rfl)) (by kernel_rfl) (by kernel_rfl) (by kernel_rfl) (met os _)) ?_
  intro W base args ds gs before hval0 hW hcnd hsz0 hL hsh _
  have hrd : ∀ n d, (n, d) ∈ Rows.reportBackRow.laid → Lib.VarReads Tryz.prog W n d := fun n d hm => Lib.laidMet.reads (by rw [MakeChecks.laidMetH_plain _ _ _ (by kernel_rfl)] at hL; exact hL) hm
  have hval : ∀ (j : Nat) t v, Tryz.f4.params[j]? = some t → args[j]? = some v → Value.okWide Tryz.prog W .any base t v := hval0
  have hW' := hW
  obtain ⟨p, q, hA0, hV, rfl, hfz, hnd⟩ := hW
  have hA : DataW.TrodAll enc Tryz.prog W 0 (fun _ => true) true Tryz.f4.params.toList args.toList ds p := hA0
  rw [Tryz.params4] at hA hval
  obtain ⟨v0, vs0, d0, ds0, p0, q0, hargs, rfl, rfl, h0, r0⟩ := trodAll_cons hA
  obtain ⟨rfl, rfl, rfl⟩ := trodAll_nil r0
  obtain rfl : args = #[v0] := by cases args; simp_all
  obtain ⟨rfl, rfl⟩ := trodVars_none hV
  have k0 := h0
  have lt0 : ∀ x ∈ p0, x.block < W.heap.size := by obtain ⟨m, hm⟩ := k0; exact DataW.trod_lt m _ _ _ hm
  obtain ⟨fuel0, hf0⟩ := h0
  obtain ⟨x0, o0⟩ := (show Opens enc Tryz.prog W 34 Rst34 from opens_st34) _ _ _ hf0
  obtain ⟨cs0, rfl, sz0⟩ : ∃ cs : Array Value, v0 = .agg cs ∧ cs.size = 5 := by
    have hh := (hval 0 34 v0 rfl rfl)
    simp only [Value.okWide, Tryz.underlying34] at hh
    obtain ⟨cs, h1, h2, _⟩ := hh
    exact ⟨cs, h1, h2.trans (by kernel_rfl)⟩
  refine (reportBack cs0 x0 W o0 (tab_pow (hrd "internal/strconv.uint64pow10" Rows.laid_internal_strconv_uint64pow10 (by simp [Rows.reportBackRow]))) (tab_erv (hrd "strconv.ErrSyntax" Rows.laid_strconv_ErrSyntax (by simp [Rows.reportBackRow])) (hrd "strconv.ErrRange" Rows.laid_strconv_ErrRange (by simp [Rows.reportBackRow]))) (tab_max hsh) (tab_u8 (hrd "unicode/utf8.first" Rows.laid_unicode_utf8_first (by simp [Rows.reportBackRow])) (hrd "unicode/utf8.acceptRanges" Rows.laid_unicode_utf8_acceptRanges (by simp [Rows.reportBackRow]))) (tab_tz (hrd "math/bits.deBruijn64tab" Rows.laid_math_bits_deBruijn64tab (by simp [Rows.reportBackRow])))).mono fun e W' ⟨he, bel⟩ => ?_
  subst he
  exact ⟨_, rfl, _, _, _, [], _, [], hW', trodAll_mk1 (shut_bool Tryz.underlying4 _), (trodAll_cons_mk (Below.trod laidOut (by kernel_rfl) (of_decide_eq_true (by kernel_rfl)) k0 bel lt0) trodAll_mk0), rfl, bel.frame _, fun h => by cases h⟩
theorem over : Rows.reportBackRow.holds Tryz.pinned (OpenSpec.ofChange Rows.reportBackSpec) :=
  OpenClaim.holds_of_wide 4 Tryz.f4 rfl rfl rfl rfl rfl rfl rfl ⟨rfl, rfl, rfl, rfl, rfl⟩ rfl rfl rfl rfl rfl (by kernel_rfl) Tryz.func4 (by kernel_rfl)
    (of_decide_eq_true (by kernel_rfl)) (by unfold Func.isWrapper; first | (rw [if_pos (by decide +kernel)]; kernel_rfl) | (rw [if_neg (by decide +kernel)]; exact ⟨rfl, rfl⟩))
    (fun os started H enc _ => lifted os started H enc)
end Go.Proofs.YtockkjhciojgbaaGreatDoor.reportBack
namespace Go.Proofs.YtockkjhciojgbaaGreatDoor
open Go.ChangeShapes Go.WideShapes Go.ChangeAt Go.RowKit
set_option maxRecDepth 100000
/-- The law, under a short name: the card, tied. -/
theorem reportBack_holds : Rows.ReportBackCardSaid :=
  Claim7.holds_tied_plain_at .later [] [.data, .data, .data, .data, .sentinel, .sentinel, .pinned] true (true, "c0e15b0888ce9ae5dcd887c3b15f72c9eb44d5d4a15e6363c12af6e541986eb4") true reportBack.over (fun _ h => by cases h) (by kernel_rfl) (fun _ h => by cases h) reportBack_row_tie rfl ⟨rfl, rfl⟩ (by kernel_rfl) rfl
    (fun f fn hf hfn => by
      obtain rfl : f = 4 := Option.some.inj ((show Tryz.prog.funcNamed "tidewaiter/tidewaiterlaw26.ReportBack" = some 4 by kernel_rfl).symm.trans hf) |>.symm
      obtain rfl : fn = Tryz.f4 := (Option.some.inj (Tryz.func4.symm.trans hfn)).symm
      exact ⟨by kernel_rfl, fun j t ht => by
        rw [Tryz.params4] at ht
        have hm : t ∈ [34] := by simpa using Array.mem_of_getElem? ht
        have hall : ([34].all fun u => !Tryz.prog.wantsStandIn u) = true := by kernel_rfl
        exact (show Tryz.prog.wantsStandIn t = false by simpa using List.all_eq_true.1 hall t hm)⟩)
    (by kernel_rfl)
#print axioms reportBack_holds
end Go.Proofs.YtockkjhciojgbaaGreatDoor
