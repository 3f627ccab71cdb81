/- The law GenOf as it is given: for every input the call answers true, and each argument reads as it did. No condition. -/
import Derived.Test.YtcgonoepndlofaaRows
import Derived.Test.YtcgonoepndlofaaLawGen
import Derived.Test.YtcgonoepndlofaaOpen
import Derived.WalkKit
import Derived.ProofKit
import Derived.OpenShut
import Derived.ShutString
import Derived.ChangeOld
import Derived.Below
import Derived.SizedLaws
namespace Go.Proofs.Ytcgonoepndlofaa.genOf
open Go.ChangeShapes Go.WideShapes Go.ChangeAt Go.RowKit
set_option linter.unusedVariables false
set_option maxRecDepth 100000
theorem own : ownKnob Try.prog.godebug = none := by kernel_rfl
theorem laidOut : laidOutB Try.prog = true := by kernel_rfl
def Rst49 (w : World) (cs : List Value) (x : (Int × Int × Int × Int × Int)) : Prop := cs.length = 5 ∧ (RInt .i64) w ((cs.drop 0).take 1) x.1 ∧ (RInt .i64) w ((cs.drop 1).take 1) x.2.1 ∧ (RInt .i64) w ((cs.drop 2).take 1) x.2.2.1 ∧ (RInt .i64) w ((cs.drop 3).take 1) x.2.2.2.1 ∧ (RInt .i64) w ((cs.drop 4).take 1) x.2.2.2.2
theorem opens_st49 {H : Type} {enc : TypeId × Value → H} {w : World} : Opens enc Try.prog w 49 Rst49 := by
  intro fuel cs y h
  obtain ⟨xs, n, _, _, hl, hxl, hel⟩ := DataW.trod_struct Try.underlying49 h
  have hcs : cs.length = 5 := hl.trans (by kernel_rfl)
  have hx0 : 0 < xs.length := by rw [hxl]; decide
  have h0 := hel 0 _ rfl
  rw [List.getElem?_eq_getElem hx0] at h0
  obtain ⟨x0, g0⟩ := (show Opens enc Try.prog w 3 (RInt .i64) from (opens_int Try.underlying3)) _ _ _ h0
  have hx1 : 1 < xs.length := by rw [hxl]; decide
  have h1 := hel 1 _ rfl
  rw [List.getElem?_eq_getElem hx1] at h1
  obtain ⟨x1, g1⟩ := (show Opens enc Try.prog w 3 (RInt .i64) from (opens_int Try.underlying3)) _ _ _ h1
  have hx2 : 2 < xs.length := by rw [hxl]; decide
  have h2 := hel 2 _ rfl
  rw [List.getElem?_eq_getElem hx2] at h2
  obtain ⟨x2, g2⟩ := (show Opens enc Try.prog w 3 (RInt .i64) from (opens_int Try.underlying3)) _ _ _ h2
  have hx3 : 3 < xs.length := by rw [hxl]; decide
  have h3 := hel 3 _ rfl
  rw [List.getElem?_eq_getElem hx3] at h3
  obtain ⟨x3, g3⟩ := (show Opens enc Try.prog w 3 (RInt .i64) from (opens_int Try.underlying3)) _ _ _ h3
  have hx4 : 4 < xs.length := by rw [hxl]; decide
  have h4 := hel 4 _ rfl
  rw [List.getElem?_eq_getElem hx4] at h4
  obtain ⟨x4, g4⟩ := (show Opens enc Try.prog w 3 (RInt .i64) from (opens_int Try.underlying3)) _ _ _ h4
  exact ⟨(x0, x1, x2, x3, x4), hcs, g0, g1, g2, g3, g4⟩
theorem lifted (os : Os) (started : os.Started) (H : Type) (enc : TypeId × Value → H) :
    ReturnsInHanded {} Try.checked os 7 .any (Rows.genOfSpec.pre6 enc Try.prog Try.f7 Rows.genOfRow.domain false) (Rows.genOfSpec.post enc Try.prog Try.f7 false true false false) := by
  refine returnsInHanded_of_change_sized (C := Try.checked) own started (by kernel_rfl) Try.func7
    (ChangeSpec.witness6 (enc := enc) (C := Try.checked) false ⟨#[], #[.agg #[.int .i64 0, .int .i64 0, .int .i64 0, .int .i64 0, .int .i64 0]], []⟩ 8 (by kernel_rfl) (by kernel_rfl) (by kernel_rfl) (by kernel_rfl)) ?_
  intro W base args ds gs before hval0 hW hcnd hsz0 _
  have hval : ∀ (j : Nat) t v, Try.f7.params[j]? = some t → args[j]? = some v → Value.okWide Try.prog W .any base t v := hval0
  have hW' := hW
  obtain ⟨p, q, hA0, hV, rfl, hfz, hnd⟩ := hW
  have hA : DataW.TrodAll enc Try.prog W 0 (fun _ => true) true Try.f7.params.toList args.toList ds p := hA0
  rw [Try.params7] at hA hval
  obtain ⟨v0, vs0, d0, ds0, p0, q0, hargs, rfl, rfl, h0, r0⟩ := trodAll_cons hA
  obtain ⟨rfl, rfl, rfl⟩ := trodAll_nil r0
  obtain rfl : args = #[v0] := by cases args; simp_all
  obtain ⟨rfl, rfl⟩ := trodVars_none hV
  have k0 := h0
  have lt0 : ∀ x ∈ p0, x.block < W.heap.size := by obtain ⟨m, hm⟩ := k0; exact DataW.trod_lt m _ _ _ hm
  obtain ⟨fuel0, hf0⟩ := h0
  obtain ⟨x0, o0⟩ := (show Opens enc Try.prog W 49 Rst49 from opens_st49) _ _ _ hf0
  obtain ⟨cs0, rfl, sz0⟩ : ∃ cs : Array Value, v0 = .agg cs ∧ cs.size = 5 := by
    have hh := (hval 0 49 v0 rfl rfl)
    simp only [Value.okWide, Try.underlying49] at hh
    obtain ⟨cs, h1, h2, _⟩ := hh
    exact ⟨cs, h1, h2.trans (by kernel_rfl)⟩
  refine (genOf cs0 x0 W o0).mono fun e W' ⟨he, bel⟩ => ?_
  subst he
  exact ⟨_, rfl, _, _, _, [], _, [], hW', trodAll_mk1 (shut_bool Try.underlying4 _), (trodAll_cons_mk (Below.trod laidOut (by kernel_rfl) (of_decide_eq_true (by kernel_rfl)) k0 bel lt0) trodAll_mk0), rfl, bel.frame _, fun h => by cases h⟩
theorem over : Rows.genOfRow.holds Try.pinned (OpenSpec.ofChange Rows.genOfSpec) :=
  OpenClaim.holds_of_wide 7 Try.f7 rfl rfl rfl rfl rfl rfl rfl ⟨rfl, rfl, rfl, rfl, rfl⟩ rfl rfl rfl rfl rfl (by kernel_rfl) Try.func7 (by kernel_rfl)
    (of_decide_eq_true (by kernel_rfl)) (by unfold Func.isWrapper; first | (rw [if_pos (by decide +kernel)]; kernel_rfl) | (rw [if_neg (by decide +kernel)]; exact ⟨rfl, rfl⟩))
    (fun os started H enc _ => lifted os started H enc)
end Go.Proofs.Ytcgonoepndlofaa.genOf
namespace Go.Proofs.Ytcgonoepndlofaa
/-- The law, under a short name. -/
theorem genOf_holds : Rows.GenOfSaid := genOf.over
#print axioms genOf_holds
end Go.Proofs.Ytcgonoepndlofaa
