/- The law WholeSigns as it is given: for every input the call answers true, and each argument reads as it did. No condition. -/
import Derived.Test.YthdblloiapadkaaDoorTabs
import Derived.Test.YthdblloiapadkaaDoorCards
import Derived.Test.YthdblloiapadkaaDoorTie
import Derived.Test.YthdblloiapadkaaDoorRows
import Derived.Test.YthdblloiapadkaaDoorLawSigns
import Derived.Test.YthdblloiapadkaaDoorOpen
import Derived.WalkKit
import Derived.LaidMore
import Derived.Lay
import Derived.SevenTiedAt
import Derived.Stop.Joined
import Derived.ProofKit
import Derived.OpenShut
import Derived.ShutString
import Derived.ChangeOld
import Derived.Below
import Derived.SizedLaws
namespace Go.Proofs.YthdblloiapadkaaDoor.wholeSigns
open Go.ChangeShapes Go.WideShapes Go.ChangeAt Go.RowKit
set_option linter.unusedVariables false
set_option maxRecDepth 100000
theorem own : ownKnob Tryd.prog.godebug = none := by kernel_rfl
theorem laidOut : laidOutB Tryd.prog = true := by kernel_rfl
theorem met (os : Os) (args : Array Value) : laidMetH Tryd.prog Rows.wholeSignsRow.laid ((World.laidAll Tryd.prog os Rows.wholeSignsRow.laid).forCall (fun _ _ => 0) ⟨#[], args, []⟩).memory := by
  rw [MakeChecks.laidMetH_plain _ _ _ (by kernel_rfl)]; exact laidMet_laidAll _ (by kernel_rfl) (by kernel_rfl)
theorem lifted (os : Os) (started : os.Started) (H : Type) (enc : TypeId × Value → H) :
    ReturnsInHanded {} Tryd.checked os 13 .any (fun w args => (Rows.wholeSignsSpec.pre enc Tryd.prog Tryd.f13 Rows.wholeSignsRow.domain false w args ∧ laidMetH Tryd.prog Rows.wholeSignsRow.laid w) ∧ sizedMet enc Tryd.prog Tryd.f13 (OpenSpec.ofChange Rows.wholeSignsSpec) false w args) (Rows.wholeSignsSpec.post enc Tryd.prog Tryd.f13 false true false false) := by
  refine returnsInHanded_of_change_and (C := Tryd.checked) (X := fun w _ => laidMetH Tryd.prog Rows.wholeSignsRow.laid w) (fun _ _ _ hh h => h.of_heap hh) own started (by kernel_rfl) Tryd.func13
    (ChangeSpec.witness_shaped (enc := enc) (C := Tryd.checked) (os := os) (X := fun w _ => laidMetH Tryd.prog Rows.wholeSignsRow.laid w) false (World.laidAll Tryd.prog os Rows.wholeSignsRow.laid) #[.string ByteArray.empty, .int .u16 0, .int .u8 0] 8 (World.laidAll_os _ _ _) (World.shaped_of_ZipB (by kernel_rfl) (by kernel_rfl)) (by kernel_rfl) (by kernel_rfl) (by kernel_rfl) (met os _)) ?_
  intro W base args ds gs before hval0 hW hcnd hsz0 hL _
  have hrd : ∀ n d, (n, d) ∈ Rows.wholeSignsRow.laid → Lib.VarReads Tryd.prog W n d := fun n d hm => Lib.laidMet.reads (by rw [MakeChecks.laidMetH_plain _ _ _ (by kernel_rfl)] at hL; exact hL) hm
  have hval : ∀ (j : Nat) t v, Tryd.f13.params[j]? = some t → args[j]? = some v → Value.okWide Tryd.prog W .any base t v := hval0
  have hW' := hW
  obtain ⟨p, q, hA0, hV, rfl, hfz, hnd⟩ := hW
  have hA : DataW.TrodAll enc Tryd.prog W 0 (fun _ => true) true Tryd.f13.params.toList args.toList ds p := hA0
  rw [Tryd.params13] at hA hval
  obtain ⟨v0, vs0, d0, ds0, p0, q0, hargs, rfl, rfl, h0, r0⟩ := trodAll_cons hA
  obtain ⟨v1, vs1, d1, ds1, p1, q1, rfl, rfl, rfl, h1, r1⟩ := trodAll_cons r0
  obtain ⟨v2, vs2, d2, ds2, p2, q2, rfl, rfl, rfl, h2, r2⟩ := trodAll_cons r1
  obtain ⟨rfl, rfl, rfl⟩ := trodAll_nil r2
  obtain rfl : args = #[v0, v1, v2] := by cases args; simp_all
  obtain ⟨rfl, rfl⟩ := trodVars_none hV
  have k0 := h0
  have lt0 : ∀ x ∈ p0, x.block < W.heap.size := by obtain ⟨m, hm⟩ := k0; exact DataW.trod_lt m _ _ _ hm
  obtain ⟨fuel0, hf0⟩ := h0
  obtain ⟨x0, o0⟩ := (show Opens enc Tryd.prog W 9 RStr from (opens_string Tryd.underlying9)) _ _ _ hf0
  obtain ⟨z0, rfl⟩ := okWide_string Tryd.underlying9 (hval 0 9 v0 rfl rfl)
  obtain ⟨e0, w0⟩ := o0
  injection e0 with e0 _
  cases e0
  have k1 := h1
  have lt1 : ∀ x ∈ p1, x.block < W.heap.size := by obtain ⟨m, hm⟩ := k1; exact DataW.trod_lt m _ _ _ hm
  obtain ⟨fuel1, hf1⟩ := h1
  obtain ⟨x1, o1⟩ := (show Opens enc Tryd.prog W 66 (RInt .u16) from (opens_int Tryd.underlying66)) _ _ _ hf1
  obtain ⟨z1, rfl⟩ := okWide_int Tryd.underlying66 (hval 1 66 v1 rfl rfl)
  obtain ⟨e1, w1⟩ := o1
  injection e1 with e1 _
  cases e1
  have k2 := h2
  have lt2 : ∀ x ∈ p2, x.block < W.heap.size := by obtain ⟨m, hm⟩ := k2; exact DataW.trod_lt m _ _ _ hm
  obtain ⟨fuel2, hf2⟩ := h2
  obtain ⟨x2, o2⟩ := (show Opens enc Tryd.prog W 5 (RInt .u8) from (opens_int Tryd.underlying5)) _ _ _ hf2
  obtain ⟨z2, rfl⟩ := okWide_int Tryd.underlying5 (hval 2 5 v2 rfl rfl)
  obtain ⟨e2, w2⟩ := o2
  injection e2 with e2 _
  cases e2
  refine (wholeSigns x0 x1 x2 W w0 w1 w2 (tab_tz (hrd "math/bits.deBruijn64tab" Rows.laid_math_bits_deBruijn64tab (by simp [Rows.wholeSignsRow]))) (tab_er (hrd "strconv.ErrSyntax" Rows.laid_strconv_ErrSyntax (by simp [Rows.wholeSignsRow])) (hrd "strconv.ErrRange" Rows.laid_strconv_ErrRange (by simp [Rows.wholeSignsRow]))) (tab_u8 (hrd "unicode/utf8.first" Rows.laid_unicode_utf8_first (by simp [Rows.wholeSignsRow])) (hrd "unicode/utf8.acceptRanges" Rows.laid_unicode_utf8_acceptRanges (by simp [Rows.wholeSignsRow])))).mono fun e W' ⟨he, bel⟩ => ?_
  subst he
  exact ⟨_, rfl, _, _, _, [], _, [], hW', trodAll_mk1 (shut_bool Tryd.underlying4 _), (trodAll_cons_mk (Below.trod laidOut (by kernel_rfl) (of_decide_eq_true (by kernel_rfl)) k0 bel lt0) (trodAll_cons_mk (Below.trod laidOut (by kernel_rfl) (of_decide_eq_true (by kernel_rfl)) k1 bel lt1) (trodAll_cons_mk (Below.trod laidOut (by kernel_rfl) (of_decide_eq_true (by kernel_rfl)) k2 bel lt2) trodAll_mk0))), rfl, bel.frame _, fun h => by cases h⟩
theorem over : Rows.wholeSignsRow.holds Tryd.pinned (OpenSpec.ofChange Rows.wholeSignsSpec) :=
  OpenClaim.holds_of_wide 13 Tryd.f13 rfl rfl rfl rfl rfl rfl rfl ⟨rfl, rfl, rfl, rfl, rfl⟩ rfl rfl rfl rfl rfl (by kernel_rfl) Tryd.func13 (by kernel_rfl)
    (of_decide_eq_true (by kernel_rfl)) (by unfold Func.isWrapper; first | (rw [if_pos (by decide +kernel)]; kernel_rfl) | (rw [if_neg (by decide +kernel)]; exact ⟨rfl, rfl⟩))
    (fun os started H enc _ => lifted os started H enc)
end Go.Proofs.YthdblloiapadkaaDoor.wholeSigns
namespace Go.Proofs.YthdblloiapadkaaDoor
open Go.ChangeShapes Go.WideShapes Go.ChangeAt Go.RowKit
set_option maxRecDepth 100000
/-- The law, under a short name: the card, tied. -/
theorem wholeSigns_holds : Rows.WholeSignsCardSaid :=
  Claim7.holds_tied_plain_at .later [] [.data, .data, .data, .data, .sentinel, .sentinel, .pinned] true (true, "6ef71f8c02f1c71461c29320a1248e4af36b8a63e46ca61e53458e415f3eb3d6") true wholeSigns.over (fun _ h => by cases h) (by kernel_rfl) (fun _ h => by cases h) wholeSigns_row_tie rfl ⟨rfl, rfl⟩ (by kernel_rfl) rfl
    (fun f fn hf hfn => by
      obtain rfl : f = 13 := Option.some.inj ((show Tryd.prog.funcNamed "tidewaiter/tidewaitertop.WholeSigns" = some 13 by kernel_rfl).symm.trans hf) |>.symm
      obtain rfl : fn = Tryd.f13 := (Option.some.inj (Tryd.func13.symm.trans hfn)).symm
      exact ⟨by kernel_rfl, fun j t ht => by
        rw [Tryd.params13] at ht
        have hm : t ∈ [9, 66, 5] := by simpa using Array.mem_of_getElem? ht
        have hall : ([9, 66, 5].all fun u => !Tryd.prog.wantsStandIn u) = true := by kernel_rfl
        exact (show Tryd.prog.wantsStandIn t = false by simpa using List.all_eq_true.1 hall t hm)⟩)
    (by kernel_rfl)
#print axioms wholeSigns_holds
end Go.Proofs.YthdblloiapadkaaDoor
