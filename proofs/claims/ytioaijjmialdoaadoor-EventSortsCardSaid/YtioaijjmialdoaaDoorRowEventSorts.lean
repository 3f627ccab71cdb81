/- The law EventSorts as it is given: for every input the call answers true, and each argument reads as it did. No condition. -/
import Derived.Test.YtioaijjmialdoaaDoorOpenSh
import Derived.Test.YtioaijjmialdoaaDoorCards
import Derived.Test.YtioaijjmialdoaaDoorTie
import Derived.Test.YtioaijjmialdoaaDoorRows
import Derived.Test.YtioaijjmialdoaaDoorLawEventC
import Derived.Test.YtioaijjmialdoaaDoorOpen
import Derived.WalkKit
import Derived.LaidMore
import Derived.Lay
import Derived.SevenTiedAt
import Derived.Stop.Joined
import Derived.ProofKit
import Derived.OpenShut
import Derived.ShutString
import Derived.ChangeOld
import Derived.Below
import Derived.SizedLaws
namespace Go.Proofs.YtioaijjmialdoaaDoor.eventSorts
open Go.ChangeShapes Go.WideShapes Go.ChangeAt Go.RowKit
set_option linter.unusedVariables false
set_option maxRecDepth 100000
theorem own : ownKnob Tryd.prog.godebug = none := by kernel_rfl
theorem laidOut : laidOutB Tryd.prog = true := by kernel_rfl
def Rst29 (w : World) (cs : List Value) (x : (Int × Int × ByteArray)) : Prop := cs.length = 3 ∧ (RInt .i64) w ((cs.drop 0).take 1) x.1 ∧ (RInt .i64) w ((cs.drop 1).take 1) x.2.1 ∧ RStr w ((cs.drop 2).take 1) x.2.2
theorem opens_st29 {H : Type} {enc : TypeId × Value → H} {w : World} : Opens enc Tryd.prog w 29 Rst29 := by
  intro fuel cs y h
  obtain ⟨xs, n, _, _, hl, hxl, hel⟩ := DataW.trod_struct Tryd.underlying29 h
  have hcs : cs.length = 3 := hl.trans (by kernel_rfl)
  have hx0 : 0 < xs.length := by rw [hxl]; decide
  have h0 := hel 0 _ rfl
  rw [List.getElem?_eq_getElem hx0] at h0
  obtain ⟨x0, g0⟩ := (show Opens enc Tryd.prog w 3 (RInt .i64) from (opens_int Tryd.underlying3)) _ _ _ h0
  have hx1 : 1 < xs.length := by rw [hxl]; decide
  have h1 := hel 1 _ rfl
  rw [List.getElem?_eq_getElem hx1] at h1
  obtain ⟨x1, g1⟩ := (show Opens enc Tryd.prog w 3 (RInt .i64) from (opens_int Tryd.underlying3)) _ _ _ h1
  have hx2 : 2 < xs.length := by rw [hxl]; decide
  have h2 := hel 2 _ rfl
  rw [List.getElem?_eq_getElem hx2] at h2
  obtain ⟨x2, g2⟩ := (show Opens enc Tryd.prog w 9 RStr from (opens_string Tryd.underlying9)) _ _ _ h2
  exact ⟨(x0, x1, x2), hcs, g0, g1, g2⟩
def Rst31 (w : World) (cs : List Value) (x : (Int × Int × (Int × Int × ByteArray) × Bool × Int × Int)) : Prop := cs.length = 8 ∧ (RInt .i64) w ((cs.drop 0).take 1) x.1 ∧ (RInt .i64) w ((cs.drop 1).take 1) x.2.1 ∧ Rst29 w ((cs.drop 2).take 3) x.2.2.1 ∧ RBool w ((cs.drop 5).take 1) x.2.2.2.1 ∧ (RInt .i64) w ((cs.drop 6).take 1) x.2.2.2.2.1 ∧ (RInt .i64) w ((cs.drop 7).take 1) x.2.2.2.2.2
theorem opens_st31 {H : Type} {enc : TypeId × Value → H} {w : World} : Opens enc Tryd.prog w 31 Rst31 := by
  intro fuel cs y h
  obtain ⟨xs, n, _, _, hl, hxl, hel⟩ := DataW.trod_struct Tryd.underlying31 h
  have hcs : cs.length = 8 := hl.trans (by kernel_rfl)
  have hx0 : 0 < xs.length := by rw [hxl]; decide
  have h0 := hel 0 _ rfl
  rw [List.getElem?_eq_getElem hx0] at h0
  obtain ⟨x0, g0⟩ := (show Opens enc Tryd.prog w 3 (RInt .i64) from (opens_int Tryd.underlying3)) _ _ _ h0
  have hx1 : 1 < xs.length := by rw [hxl]; decide
  have h1 := hel 1 _ rfl
  rw [List.getElem?_eq_getElem hx1] at h1
  obtain ⟨x1, g1⟩ := (show Opens enc Tryd.prog w 3 (RInt .i64) from (opens_int Tryd.underlying3)) _ _ _ h1
  have hx2 : 2 < xs.length := by rw [hxl]; decide
  have h2 := hel 2 _ rfl
  rw [List.getElem?_eq_getElem hx2] at h2
  obtain ⟨x2, g2⟩ := (show Opens enc Tryd.prog w 29 Rst29 from opens_st29) _ _ _ h2
  have hx3 : 3 < xs.length := by rw [hxl]; decide
  have h3 := hel 3 _ rfl
  rw [List.getElem?_eq_getElem hx3] at h3
  obtain ⟨x3, g3⟩ := (show Opens enc Tryd.prog w 4 RBool from (opens_bool Tryd.underlying4)) _ _ _ h3
  have hx4 : 4 < xs.length := by rw [hxl]; decide
  have h4 := hel 4 _ rfl
  rw [List.getElem?_eq_getElem hx4] at h4
  obtain ⟨x4, g4⟩ := (show Opens enc Tryd.prog w 3 (RInt .i64) from (opens_int Tryd.underlying3)) _ _ _ h4
  have hx5 : 5 < xs.length := by rw [hxl]; decide
  have h5 := hel 5 _ rfl
  rw [List.getElem?_eq_getElem hx5] at h5
  obtain ⟨x5, g5⟩ := (show Opens enc Tryd.prog w 3 (RInt .i64) from (opens_int Tryd.underlying3)) _ _ _ h5
  exact ⟨(x0, x1, x2, x3, x4, x5), hcs, g0, g1, g2, g3, g4, g5⟩
theorem met (os : Os) (args : Array Value) : laidMetH Tryd.prog Rows.eventSortsRow.laid ((World.laidAll Tryd.prog os Rows.eventSortsRow.laid).forCall (fun _ _ => 0) ⟨#[], args, []⟩).memory := by
  rw [MakeChecks.laidMetH_plain _ _ _ (by kernel_rfl)]; exact laidMet_laidAll _ (by kernel_rfl) (by kernel_rfl)
theorem lifted (os : Os) (started : os.Started) (H : Type) (enc : TypeId × Value → H) :
    ReturnsInHanded {} Tryd.checked os 4 .any (fun w args => (Rows.eventSortsSpec.pre enc Tryd.prog Tryd.f4 Rows.eventSortsRow.domain false w args ∧ laidMetH Tryd.prog Rows.eventSortsRow.laid w) ∧ sizedMet enc Tryd.prog Tryd.f4 (OpenSpec.ofChange Rows.eventSortsSpec) false w args) (Rows.eventSortsSpec.post enc Tryd.prog Tryd.f4 false true false false) := by
  refine change_and_shaped (C := Tryd.checked) (X := fun w _ => laidMetH Tryd.prog Rows.eventSortsRow.laid w) (fun _ _ _ hh h => h.of_heap hh) own started (by kernel_rfl) Tryd.func4
    (ChangeSpec.witness_shaped (enc := enc) (C := Tryd.checked) (os := os) (X := fun w _ => laidMetH Tryd.prog Rows.eventSortsRow.laid w) false (World.laidAll Tryd.prog os Rows.eventSortsRow.laid) #[.slice none 0 0] 8 (World.laidAll_os _ _ _) (World.shaped_of_ZipB (by kernel_rfl) (by kernel_rfl)) (by kernel_rfl) (by kernel_rfl) (by kernel_rfl) (met os _)) ?_
  intro W base args ds gs before hval0 hW hcnd hsz0 hL hsh _
  have hrd : ∀ n d, (n, d) ∈ Rows.eventSortsRow.laid → Lib.VarReads Tryd.prog W n d := fun n d hm => Lib.laidMet.reads (by rw [MakeChecks.laidMetH_plain _ _ _ (by kernel_rfl)] at hL; exact hL) hm
  have hval : ∀ (j : Nat) t v, Tryd.f4.params[j]? = some t → args[j]? = some v → Value.okWide Tryd.prog W .any base t v := hval0
  have hW' := hW
  obtain ⟨p, q, hA0, hV, rfl, hfz, hnd⟩ := hW
  have hA : DataW.TrodAll enc Tryd.prog W 0 (fun _ => true) true Tryd.f4.params.toList args.toList ds p := hA0
  rw [Tryd.params4] at hA hval
  obtain ⟨v0, vs0, d0, ds0, p0, q0, hargs, rfl, rfl, h0, r0⟩ := trodAll_cons hA
  obtain ⟨rfl, rfl, rfl⟩ := trodAll_nil r0
  obtain rfl : args = #[v0] := by cases args; simp_all
  obtain ⟨rfl, rfl⟩ := trodVars_none hV
  have k0 := h0
  have lt0 : ∀ x ∈ p0, x.block < W.heap.size := by obtain ⟨m, hm⟩ := k0; exact DataW.trod_lt m _ _ _ hm
  obtain ⟨fuel0, hf0⟩ := h0
  obtain ⟨x0, o0⟩ := (show Opens enc Tryd.prog W 32 (RSl 8 Rst31) from (opens_slice Tryd.underlying32 (by kernel_rfl) opens_st31)) _ _ _ hf0
  obtain ⟨a0, len0, cap0, rfl⟩ := okWide_slice Tryd.underlying32 (hval 0 32 v0 rfl rfl)
  obtain ⟨A0, c0, e0, l0, m0, rd0⟩ := o0
  injection e0 with e0 _
  cases e0
  refine (eventSorts a0 cap0 x0 W rd0 (Nat.le_trans l0 m0) (tab_pow (hrd "internal/strconv.uint64pow10" Rows.laid_internal_strconv_uint64pow10 (by simp [Rows.eventSortsRow]))) (tab_erv (hrd "strconv.ErrSyntax" Rows.laid_strconv_ErrSyntax (by simp [Rows.eventSortsRow])) (hrd "strconv.ErrRange" Rows.laid_strconv_ErrRange (by simp [Rows.eventSortsRow]))) (tab_max hsh) (tab_u8 (hrd "unicode/utf8.first" Rows.laid_unicode_utf8_first (by simp [Rows.eventSortsRow])) (hrd "unicode/utf8.acceptRanges" Rows.laid_unicode_utf8_acceptRanges (by simp [Rows.eventSortsRow]))) (tab_tz (hrd "math/bits.deBruijn64tab" Rows.laid_math_bits_deBruijn64tab (by simp [Rows.eventSortsRow])))).mono fun e W' ⟨he, bel⟩ => ?_
  subst he
  exact ⟨_, rfl, _, _, _, [], _, [], hW', trodAll_mk1 (shut_bool Tryd.underlying4 _), (trodAll_cons_mk (Below.trod laidOut (by kernel_rfl) (of_decide_eq_true (by kernel_rfl)) k0 bel lt0) trodAll_mk0), rfl, bel.frame _, fun h => by cases h⟩
theorem over : Rows.eventSortsRow.holds Tryd.pinned (OpenSpec.ofChange Rows.eventSortsSpec) :=
  OpenClaim.holds_of_wide 4 Tryd.f4 rfl rfl rfl rfl rfl rfl rfl ⟨rfl, rfl, rfl, rfl, rfl⟩ rfl rfl rfl rfl rfl (by kernel_rfl) Tryd.func4 (by kernel_rfl)
    (of_decide_eq_true (by kernel_rfl)) (by unfold Func.isWrapper; first | (rw [if_pos (by decide +kernel)]; kernel_rfl) | (rw [if_neg (by decide +kernel)]; exact ⟨rfl, rfl⟩))
    (fun os started H enc _ => lifted os started H enc)
end Go.Proofs.YtioaijjmialdoaaDoor.eventSorts
namespace Go.Proofs.YtioaijjmialdoaaDoor
open Go.ChangeShapes Go.WideShapes Go.ChangeAt Go.RowKit
set_option maxRecDepth 100000
/-- The law, under a short name: the card, tied. -/
theorem eventSorts_holds : Rows.EventSortsCardSaid :=
  Claim7.holds_tied_plain_at .later [] [.data, .data, .data, .data, .sentinel, .sentinel, .pinned] true (true, "412a043d4a6a12a053c069c40db51097092d46b5590eeaeea82d4ffec0248c68") true eventSorts.over (fun _ h => by cases h) (by kernel_rfl) (fun _ h => by cases h) eventSorts_row_tie rfl ⟨rfl, rfl⟩ (by kernel_rfl) rfl
    (fun f fn hf hfn => by
      obtain rfl : f = 4 := Option.some.inj ((show Tryd.prog.funcNamed "tidewaiter/tidewaiterlaw22.EventSorts" = some 4 by kernel_rfl).symm.trans hf) |>.symm
      obtain rfl : fn = Tryd.f4 := (Option.some.inj (Tryd.func4.symm.trans hfn)).symm
      exact ⟨by kernel_rfl, fun j t ht => by
        rw [Tryd.params4] at ht
        have hm : t ∈ [32] := by simpa using Array.mem_of_getElem? ht
        have hall : ([32].all fun u => !Tryd.prog.wantsStandIn u) = true := by kernel_rfl
        exact (show Tryd.prog.wantsStandIn t = false by simpa using List.all_eq_true.1 hall t hm)⟩)
    (by kernel_rfl)
#print axioms eventSorts_holds
end Go.Proofs.YtioaijjmialdoaaDoor
