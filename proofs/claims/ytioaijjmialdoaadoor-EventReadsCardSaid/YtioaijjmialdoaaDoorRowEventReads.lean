/- The law EventReads as it is given: for every input the call answers true, and each argument reads as it did. No condition. -/
import Derived.Test.YtioaijjmialdoaaDoorOpenSh
import Derived.Test.YtioaijjmialdoaaDoorCards
import Derived.Test.YtioaijjmialdoaaDoorTie
import Derived.Test.YtioaijjmialdoaaDoorRows
import Derived.Test.YtioaijjmialdoaaDoorLawEvent
import Derived.Test.YtioaijjmialdoaaDoorOpen
import Derived.WalkKit
import Derived.LaidMore
import Derived.Lay
import Derived.SevenTiedAt
import Derived.Stop.Joined
import Derived.ProofKit
import Derived.OpenShut
import Derived.ShutString
import Derived.ChangeOld
import Derived.Below
import Derived.SizedLaws
namespace Go.Proofs.YtioaijjmialdoaaDoor.eventReads
open Go.ChangeShapes Go.WideShapes Go.ChangeAt Go.RowKit
set_option linter.unusedVariables false
set_option maxRecDepth 100000
theorem own : ownKnob Tryd.prog.godebug = none := by kernel_rfl
theorem laidOut : laidOutB Tryd.prog = true := by kernel_rfl
theorem met (os : Os) (args : Array Value) : laidMetH Tryd.prog Rows.eventReadsRow.laid ((World.laidAll Tryd.prog os Rows.eventReadsRow.laid).forCall (fun _ _ => 0) ⟨#[], args, []⟩).memory := by
  rw [MakeChecks.laidMetH_plain _ _ _ (by kernel_rfl)]; exact laidMet_laidAll _ (by kernel_rfl) (by kernel_rfl)
theorem lifted (os : Os) (started : os.Started) (H : Type) (enc : TypeId × Value → H) :
    ReturnsInHanded {} Tryd.checked os 3 .any (fun w args => (Rows.eventReadsSpec.pre enc Tryd.prog Tryd.f3 Rows.eventReadsRow.domain false w args ∧ laidMetH Tryd.prog Rows.eventReadsRow.laid w) ∧ sizedMet enc Tryd.prog Tryd.f3 (OpenSpec.ofChange Rows.eventReadsSpec) false w args) (Rows.eventReadsSpec.post enc Tryd.prog Tryd.f3 false true false false) := by
  refine change_and_shaped (C := Tryd.checked) (X := fun w _ => laidMetH Tryd.prog Rows.eventReadsRow.laid w) (fun _ _ _ hh h => h.of_heap hh) own started (by kernel_rfl) Tryd.func3
    (ChangeSpec.witness_shaped (enc := enc) (C := Tryd.checked) (os := os) (X := fun w _ => laidMetH Tryd.prog Rows.eventReadsRow.laid w) false (World.laidAll Tryd.prog os Rows.eventReadsRow.laid) #[.string ByteArray.empty] 8 (World.laidAll_os _ _ _) (World.shaped_of_ZipB (by kernel_rfl) (by kernel_rfl)) (by kernel_rfl) (by kernel_rfl) (by kernel_rfl) (met os _)) ?_
  intro W base args ds gs before hval0 hW hcnd hsz0 hL hsh _
  have hrd : ∀ n d, (n, d) ∈ Rows.eventReadsRow.laid → Lib.VarReads Tryd.prog W n d := fun n d hm => Lib.laidMet.reads (by rw [MakeChecks.laidMetH_plain _ _ _ (by kernel_rfl)] at hL; exact hL) hm
  have hval : ∀ (j : Nat) t v, Tryd.f3.params[j]? = some t → args[j]? = some v → Value.okWide Tryd.prog W .any base t v := hval0
  have hW' := hW
  obtain ⟨p, q, hA0, hV, rfl, hfz, hnd⟩ := hW
  have hA : DataW.TrodAll enc Tryd.prog W 0 (fun _ => true) true Tryd.f3.params.toList args.toList ds p := hA0
  rw [Tryd.params3] at hA hval
  obtain ⟨v0, vs0, d0, ds0, p0, q0, hargs, rfl, rfl, h0, r0⟩ := trodAll_cons hA
  obtain ⟨rfl, rfl, rfl⟩ := trodAll_nil r0
  obtain rfl : args = #[v0] := by cases args; simp_all
  obtain ⟨rfl, rfl⟩ := trodVars_none hV
  have k0 := h0
  have lt0 : ∀ x ∈ p0, x.block < W.heap.size := by obtain ⟨m, hm⟩ := k0; exact DataW.trod_lt m _ _ _ hm
  obtain ⟨fuel0, hf0⟩ := h0
  obtain ⟨x0, o0⟩ := (show Opens enc Tryd.prog W 9 RStr from (opens_string Tryd.underlying9)) _ _ _ hf0
  obtain ⟨z0, rfl⟩ := okWide_string Tryd.underlying9 (hval 0 9 v0 rfl rfl)
  obtain ⟨e0, w0⟩ := o0
  injection e0 with e0 _
  cases e0
  refine (eventReads x0 W w0 (tab_pow (hrd "internal/strconv.uint64pow10" Rows.laid_internal_strconv_uint64pow10 (by simp [Rows.eventReadsRow]))) (tab_erv (hrd "strconv.ErrSyntax" Rows.laid_strconv_ErrSyntax (by simp [Rows.eventReadsRow])) (hrd "strconv.ErrRange" Rows.laid_strconv_ErrRange (by simp [Rows.eventReadsRow]))) (tab_max hsh) (tab_u8 (hrd "unicode/utf8.first" Rows.laid_unicode_utf8_first (by simp [Rows.eventReadsRow])) (hrd "unicode/utf8.acceptRanges" Rows.laid_unicode_utf8_acceptRanges (by simp [Rows.eventReadsRow]))) (tab_tz (hrd "math/bits.deBruijn64tab" Rows.laid_math_bits_deBruijn64tab (by simp [Rows.eventReadsRow])))).mono fun e W' ⟨he, bel⟩ => ?_
  subst he
  exact ⟨_, rfl, _, _, _, [], _, [], hW', trodAll_mk1 (shut_bool Tryd.underlying4 _), (trodAll_cons_mk (Below.trod laidOut (by kernel_rfl) (of_decide_eq_true (by kernel_rfl)) k0 bel lt0) trodAll_mk0), rfl, bel.frame _, fun h => by cases h⟩
theorem over : Rows.eventReadsRow.holds Tryd.pinned (OpenSpec.ofChange Rows.eventReadsSpec) :=
  OpenClaim.holds_of_wide 3 Tryd.f3 rfl rfl rfl rfl rfl rfl rfl ⟨rfl, rfl, rfl, rfl, rfl⟩ rfl rfl rfl rfl rfl (by kernel_rfl) Tryd.func3 (by kernel_rfl)
    (of_decide_eq_true (by kernel_rfl)) (by unfold Func.isWrapper; first | (rw [if_pos (by decide +kernel)]; kernel_rfl) | (rw [if_neg (by decide +kernel)]; exact ⟨rfl, rfl⟩))
    (fun os started H enc _ => lifted os started H enc)
end Go.Proofs.YtioaijjmialdoaaDoor.eventReads
namespace Go.Proofs.YtioaijjmialdoaaDoor
open Go.ChangeShapes Go.WideShapes Go.ChangeAt Go.RowKit
set_option maxRecDepth 100000
/-- The law, under a short name: the card, tied. -/
theorem eventReads_holds : Rows.EventReadsCardSaid :=
  Claim7.holds_tied_plain_at .later [] [.data, .data, .data, .data, .sentinel, .sentinel, .pinned] true (true, "412a043d4a6a12a053c069c40db51097092d46b5590eeaeea82d4ffec0248c68") true eventReads.over (fun _ h => by cases h) (by kernel_rfl) (fun _ h => by cases h) eventReads_row_tie rfl ⟨rfl, rfl⟩ (by kernel_rfl) rfl
    (fun f fn hf hfn => by
      obtain rfl : f = 3 := Option.some.inj ((show Tryd.prog.funcNamed "tidewaiter/tidewaiterlaw22.EventReads" = some 3 by kernel_rfl).symm.trans hf) |>.symm
      obtain rfl : fn = Tryd.f3 := (Option.some.inj (Tryd.func3.symm.trans hfn)).symm
      exact ⟨by kernel_rfl, fun j t ht => by
        rw [Tryd.params3] at ht
        have hm : t ∈ [9] := by simpa using Array.mem_of_getElem? ht
        have hall : ([9].all fun u => !Tryd.prog.wantsStandIn u) = true := by kernel_rfl
        exact (show Tryd.prog.wantsStandIn t = false by simpa using List.all_eq_true.1 hall t hm)⟩)
    (by kernel_rfl)
#print axioms eventReads_holds
end Go.Proofs.YtioaijjmialdoaaDoor
