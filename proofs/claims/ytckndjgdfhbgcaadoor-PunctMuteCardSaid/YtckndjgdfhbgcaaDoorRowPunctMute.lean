/- The law PunctMute as it is given: for every input the call answers true, and each argument reads as it did. No condition. -/
import Derived.Test.YtckndjgdfhbgcaaDoorTabs
import Derived.Test.YtckndjgdfhbgcaaDoorCards
import Derived.Test.YtckndjgdfhbgcaaDoorTie
import Derived.Test.YtckndjgdfhbgcaaDoorRows
import Derived.Test.YtckndjgdfhbgcaaDoorLawPunct
import Derived.Test.YtckndjgdfhbgcaaDoorOpen
import Derived.WalkKit
import Derived.LaidMore
import Derived.Lay
import Derived.SevenTiedAt
import Derived.Stop.Joined
import Derived.ProofKit
import Derived.OpenShut
import Derived.ShutString
import Derived.ChangeOld
import Derived.Below
import Derived.SizedLaws
namespace Go.Proofs.YtckndjgdfhbgcaaDoor.punctMute
open Go.ChangeShapes Go.WideShapes Go.ChangeAt Go.RowKit
set_option linter.unusedVariables false
set_option maxRecDepth 100000
theorem own : ownKnob Tryd.prog.godebug = none := by kernel_rfl
theorem laidOut : laidOutB Tryd.prog = true := by kernel_rfl
def Rst27 (w : World) (cs : List Value) (x : (Int × Int × ByteArray)) : Prop := cs.length = 3 ∧ (RInt .i64) w ((cs.drop 0).take 1) x.1 ∧ (RInt .i64) w ((cs.drop 1).take 1) x.2.1 ∧ RStr w ((cs.drop 2).take 1) x.2.2
theorem opens_st27 {H : Type} {enc : TypeId × Value → H} {w : World} : Opens enc Tryd.prog w 27 Rst27 := by
  intro fuel cs y h
  obtain ⟨xs, n, _, _, hl, hxl, hel⟩ := DataW.trod_struct Tryd.underlying27 h
  have hcs : cs.length = 3 := hl.trans (by kernel_rfl)
  have hx0 : 0 < xs.length := by rw [hxl]; decide
  have h0 := hel 0 _ rfl
  rw [List.getElem?_eq_getElem hx0] at h0
  obtain ⟨x0, g0⟩ := (show Opens enc Tryd.prog w 3 (RInt .i64) from (opens_int Tryd.underlying3)) _ _ _ h0
  have hx1 : 1 < xs.length := by rw [hxl]; decide
  have h1 := hel 1 _ rfl
  rw [List.getElem?_eq_getElem hx1] at h1
  obtain ⟨x1, g1⟩ := (show Opens enc Tryd.prog w 3 (RInt .i64) from (opens_int Tryd.underlying3)) _ _ _ h1
  have hx2 : 2 < xs.length := by rw [hxl]; decide
  have h2 := hel 2 _ rfl
  rw [List.getElem?_eq_getElem hx2] at h2
  obtain ⟨x2, g2⟩ := (show Opens enc Tryd.prog w 9 RStr from (opens_string Tryd.underlying9)) _ _ _ h2
  exact ⟨(x0, x1, x2), hcs, g0, g1, g2⟩
theorem met (os : Os) (args : Array Value) : laidMetH Tryd.prog Rows.punctMuteRow.laid ((World.laidAll Tryd.prog os Rows.punctMuteRow.laid).forCall (fun _ _ => 0) ⟨#[], args, []⟩).memory := by
  rw [MakeChecks.laidMetH_plain _ _ _ (by kernel_rfl)]; exact laidMet_laidAll _ (by kernel_rfl) (by kernel_rfl)
theorem lifted (os : Os) (started : os.Started) (H : Type) (enc : TypeId × Value → H) :
    ReturnsInHanded {} Tryd.checked os 4 .any (fun w args => (Rows.punctMuteSpec.pre enc Tryd.prog Tryd.f4 Rows.punctMuteRow.domain false w args ∧ laidMetH Tryd.prog Rows.punctMuteRow.laid w) ∧ sizedMet enc Tryd.prog Tryd.f4 (OpenSpec.ofChange Rows.punctMuteSpec) false w args) (Rows.punctMuteSpec.post enc Tryd.prog Tryd.f4 false true false false) := by
  refine returnsInHanded_of_change_and (C := Tryd.checked) (X := fun w _ => laidMetH Tryd.prog Rows.punctMuteRow.laid w) (fun _ _ _ hh h => h.of_heap hh) own started (by kernel_rfl) Tryd.func4
    (ChangeSpec.witness_shaped (enc := enc) (C := Tryd.checked) (os := os) (X := fun w _ => laidMetH Tryd.prog Rows.punctMuteRow.laid w) false (World.laidAll Tryd.prog os Rows.punctMuteRow.laid) #[.int .i64 0, .slice none 0 0] 8 (World.laidAll_os _ _ _) (World.shaped_of_ZipB (by kernel_rfl) (by kernel_rfl)) (by kernel_rfl) (by kernel_rfl) (by kernel_rfl) (met os _)) ?_
  intro W base args ds gs before hval0 hW hcnd hsz0 hL _
  have hrd : ∀ n d, (n, d) ∈ Rows.punctMuteRow.laid → Lib.VarReads Tryd.prog W n d := fun n d hm => Lib.laidMet.reads (by rw [MakeChecks.laidMetH_plain _ _ _ (by kernel_rfl)] at hL; exact hL) hm
  have hval : ∀ (j : Nat) t v, Tryd.f4.params[j]? = some t → args[j]? = some v → Value.okWide Tryd.prog W .any base t v := hval0
  have hW' := hW
  obtain ⟨p, q, hA0, hV, rfl, hfz, hnd⟩ := hW
  have hA : DataW.TrodAll enc Tryd.prog W 0 (fun _ => true) true Tryd.f4.params.toList args.toList ds p := hA0
  rw [Tryd.params4] at hA hval
  obtain ⟨v0, vs0, d0, ds0, p0, q0, hargs, rfl, rfl, h0, r0⟩ := trodAll_cons hA
  obtain ⟨v1, vs1, d1, ds1, p1, q1, rfl, rfl, rfl, h1, r1⟩ := trodAll_cons r0
  obtain ⟨rfl, rfl, rfl⟩ := trodAll_nil r1
  obtain rfl : args = #[v0, v1] := by cases args; simp_all
  obtain ⟨rfl, rfl⟩ := trodVars_none hV
  have k0 := h0
  have lt0 : ∀ x ∈ p0, x.block < W.heap.size := by obtain ⟨m, hm⟩ := k0; exact DataW.trod_lt m _ _ _ hm
  obtain ⟨fuel0, hf0⟩ := h0
  obtain ⟨x0, o0⟩ := (show Opens enc Tryd.prog W 3 (RInt .i64) from (opens_int Tryd.underlying3)) _ _ _ hf0
  obtain ⟨z0, rfl⟩ := okWide_int Tryd.underlying3 (hval 0 3 v0 rfl rfl)
  obtain ⟨e0, w0⟩ := o0
  injection e0 with e0 _
  cases e0
  have k1 := h1
  have lt1 : ∀ x ∈ p1, x.block < W.heap.size := by obtain ⟨m, hm⟩ := k1; exact DataW.trod_lt m _ _ _ hm
  obtain ⟨fuel1, hf1⟩ := h1
  obtain ⟨x1, o1⟩ := (show Opens enc Tryd.prog W 22 (RSl 3 Rst27) from (opens_slice Tryd.underlying22 (by kernel_rfl) opens_st27)) _ _ _ hf1
  obtain ⟨a1, len1, cap1, rfl⟩ := okWide_slice Tryd.underlying22 (hval 1 22 v1 rfl rfl)
  obtain ⟨A1, c1, e1, l1, m1, rd1⟩ := o1
  injection e1 with e1 _
  cases e1
  refine (punctMute x0 a1 cap1 x1 W w0 rd1 (Nat.le_trans l1 m1) (tab_u8 (hrd "unicode/utf8.first" Rows.laid_unicode_utf8_first (by simp [Rows.punctMuteRow])) (hrd "unicode/utf8.acceptRanges" Rows.laid_unicode_utf8_acceptRanges (by simp [Rows.punctMuteRow])))).mono fun e W' ⟨he, bel⟩ => ?_
  subst he
  exact ⟨_, rfl, _, _, _, [], _, [], hW', trodAll_mk1 (shut_bool Tryd.underlying4 _), (trodAll_cons_mk (Below.trod laidOut (by kernel_rfl) (of_decide_eq_true (by kernel_rfl)) k0 bel lt0) (trodAll_cons_mk (Below.trod laidOut (by kernel_rfl) (of_decide_eq_true (by kernel_rfl)) k1 bel lt1) trodAll_mk0)), rfl, bel.frame _, fun h => by cases h⟩
theorem over : Rows.punctMuteRow.holds Tryd.pinned (OpenSpec.ofChange Rows.punctMuteSpec) :=
  OpenClaim.holds_of_wide 4 Tryd.f4 rfl rfl rfl rfl rfl rfl rfl ⟨rfl, rfl, rfl, rfl, rfl⟩ rfl rfl rfl rfl rfl (by kernel_rfl) Tryd.func4 (by kernel_rfl)
    (of_decide_eq_true (by kernel_rfl)) (by unfold Func.isWrapper; first | (rw [if_pos (by decide +kernel)]; kernel_rfl) | (rw [if_neg (by decide +kernel)]; exact ⟨rfl, rfl⟩))
    (fun os started H enc _ => lifted os started H enc)
end Go.Proofs.YtckndjgdfhbgcaaDoor.punctMute
namespace Go.Proofs.YtckndjgdfhbgcaaDoor
open Go.ChangeShapes Go.WideShapes Go.ChangeAt Go.RowKit
set_option maxRecDepth 100000
/-- The law, under a short name: the card, tied. -/
theorem punctMute_holds : Rows.PunctMuteCardSaid :=
  Claim7.holds_tied_plain_at .later [] [.data, .pinned] true (true, "85ea8a44bbab32bc89cc5e5d275553be90d5d405ff154195395736481285e7a5") false punctMute.over (fun _ h => by cases h) (by kernel_rfl) (fun _ h => by cases h) punctMute_row_tie rfl ⟨rfl, rfl⟩ (by kernel_rfl) rfl
    (fun f fn hf hfn => by
      obtain rfl : f = 4 := Option.some.inj ((show Tryd.prog.funcNamed "tidewaiter/tidewaiterlaw11.PunctMute" = some 4 by kernel_rfl).symm.trans hf) |>.symm
      obtain rfl : fn = Tryd.f4 := (Option.some.inj (Tryd.func4.symm.trans hfn)).symm
      exact ⟨by kernel_rfl, fun j t ht => by
        rw [Tryd.params4] at ht
        have hm : t ∈ [3, 22] := by simpa using Array.mem_of_getElem? ht
        have hall : ([3, 22].all fun u => !Tryd.prog.wantsStandIn u) = true := by kernel_rfl
        exact (show Tryd.prog.wantsStandIn t = false by simpa using List.all_eq_true.1 hall t hm)⟩)
    (by kernel_rfl)
#print axioms punctMute_holds
end Go.Proofs.YtckndjgdfhbgcaaDoor
