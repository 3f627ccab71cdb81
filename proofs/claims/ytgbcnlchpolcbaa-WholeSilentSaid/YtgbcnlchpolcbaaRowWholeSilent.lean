/- The law WholeSilent as it is given: for every input the call answers true, and each argument reads as it did. No condition. -/
import Derived.Test.YtgbcnlchpolcbaaRows
import Derived.Test.YtgbcnlchpolcbaaLawSilent
import Derived.Test.YtgbcnlchpolcbaaOpen
import Derived.WalkKit
import Derived.ProofKit
import Derived.OpenShut
import Derived.ShutString
import Derived.ChangeOld
import Derived.Below
import Derived.SizedLaws
namespace Go.Proofs.Ytgbcnlchpolcbaa.wholeSilent
open Go.ChangeShapes Go.WideShapes Go.ChangeAt Go.RowKit
set_option linter.unusedVariables false
set_option maxRecDepth 100000
theorem own : ownKnob Try.prog.godebug = none := by kernel_rfl
theorem laidOut : laidOutB Try.prog = true := by kernel_rfl
def Rst36 (w : World) (cs : List Value) (x : (Int × Int × Bool)) : Prop := cs.length = 3 ∧ (RInt .u8) w ((cs.drop 0).take 1) x.1 ∧ (RInt .u8) w ((cs.drop 1).take 1) x.2.1 ∧ RBool w ((cs.drop 2).take 1) x.2.2
theorem opens_st36 {H : Type} {enc : TypeId × Value → H} {w : World} : Opens enc Try.prog w 36 Rst36 := by
  intro fuel cs y h
  obtain ⟨xs, n, _, _, hl, hxl, hel⟩ := DataW.trod_struct Try.underlying36 h
  have hcs : cs.length = 3 := hl.trans (by kernel_rfl)
  have hx0 : 0 < xs.length := by rw [hxl]; decide
  have h0 := hel 0 _ rfl
  rw [List.getElem?_eq_getElem hx0] at h0
  obtain ⟨x0, g0⟩ := (show Opens enc Try.prog w 5 (RInt .u8) from (opens_int Try.underlying5)) _ _ _ h0
  have hx1 : 1 < xs.length := by rw [hxl]; decide
  have h1 := hel 1 _ rfl
  rw [List.getElem?_eq_getElem hx1] at h1
  obtain ⟨x1, g1⟩ := (show Opens enc Try.prog w 5 (RInt .u8) from (opens_int Try.underlying5)) _ _ _ h1
  have hx2 : 2 < xs.length := by rw [hxl]; decide
  have h2 := hel 2 _ rfl
  rw [List.getElem?_eq_getElem hx2] at h2
  obtain ⟨x2, g2⟩ := (show Opens enc Try.prog w 4 RBool from (opens_bool Try.underlying4)) _ _ _ h2
  exact ⟨(x0, x1, x2), hcs, g0, g1, g2⟩
theorem lifted (os : Os) (started : os.Started) (H : Type) (enc : TypeId × Value → H) :
    ReturnsInHanded {} Try.checked os 3 .any (Rows.wholeSilentSpec.pre6 enc Try.prog Try.f3 Rows.wholeSilentRow.domain false) (Rows.wholeSilentSpec.post enc Try.prog Try.f3 false true false false) := by
  refine returnsInHanded_of_change_sized (C := Try.checked) own started (by kernel_rfl) Try.func3
    (ChangeSpec.witness6 (enc := enc) (C := Try.checked) false ⟨#[], #[.int .u8 0, .slice none 0 0, .slice none 0 0], []⟩ 8 (by kernel_rfl) (by kernel_rfl) (by kernel_rfl) (by kernel_rfl)) ?_
  intro W base args ds gs before hval0 hW hcnd hsz0 _
  have hval : ∀ (j : Nat) t v, Try.f3.params[j]? = some t → args[j]? = some v → Value.okWide Try.prog W .any base t v := hval0
  have hW' := hW
  obtain ⟨p, q, hA0, hV, rfl, hfz, hnd⟩ := hW
  have hA : DataW.TrodAll enc Try.prog W 0 (fun _ => true) true Try.f3.params.toList args.toList ds p := hA0
  rw [Try.params3] at hA hval
  obtain ⟨v0, vs0, d0, ds0, p0, q0, hargs, rfl, rfl, h0, r0⟩ := trodAll_cons hA
  obtain ⟨v1, vs1, d1, ds1, p1, q1, rfl, rfl, rfl, h1, r1⟩ := trodAll_cons r0
  obtain ⟨v2, vs2, d2, ds2, p2, q2, rfl, rfl, rfl, h2, r2⟩ := trodAll_cons r1
  obtain ⟨rfl, rfl, rfl⟩ := trodAll_nil r2
  obtain rfl : args = #[v0, v1, v2] := by cases args; simp_all
  obtain ⟨rfl, rfl⟩ := trodVars_none hV
  have k0 := h0
  have lt0 : ∀ x ∈ p0, x.block < W.heap.size := by obtain ⟨m, hm⟩ := k0; exact DataW.trod_lt m _ _ _ hm
  obtain ⟨fuel0, hf0⟩ := h0
  obtain ⟨x0, o0⟩ := (show Opens enc Try.prog W 5 (RInt .u8) from (opens_int Try.underlying5)) _ _ _ hf0
  obtain ⟨z0, rfl⟩ := okWide_int Try.underlying5 (hval 0 5 v0 rfl rfl)
  obtain ⟨e0, w0⟩ := o0
  injection e0 with e0 _
  cases e0
  have k1 := h1
  have lt1 : ∀ x ∈ p1, x.block < W.heap.size := by obtain ⟨m, hm⟩ := k1; exact DataW.trod_lt m _ _ _ hm
  obtain ⟨fuel1, hf1⟩ := h1
  obtain ⟨x1, o1⟩ := (show Opens enc Try.prog W 22 (RSl 1 (RInt .i64)) from (opens_slice Try.underlying22 (by kernel_rfl) (opens_int Try.underlying3))) _ _ _ hf1
  obtain ⟨a1, len1, cap1, rfl⟩ := okWide_slice Try.underlying22 (hval 1 22 v1 rfl rfl)
  obtain ⟨A1, c1, e1, l1, m1, rd1, wf1⟩ := RSl.ints o1
  cases e1
  have k2 := h2
  have lt2 : ∀ x ∈ p2, x.block < W.heap.size := by obtain ⟨m, hm⟩ := k2; exact DataW.trod_lt m _ _ _ hm
  obtain ⟨fuel2, hf2⟩ := h2
  obtain ⟨x2, o2⟩ := (show Opens enc Try.prog W 23 (RSl 3 Rst36) from (opens_slice Try.underlying23 (by kernel_rfl) opens_st36)) _ _ _ hf2
  obtain ⟨a2, len2, cap2, rfl⟩ := okWide_slice Try.underlying23 (hval 2 23 v2 rfl rfl)
  obtain ⟨A2, c2, e2, l2, m2, rd2⟩ := o2
  injection e2 with e2 _
  cases e2
  refine (wholeSilent x0 a1 cap1 x1 a2 cap2 x2 W w0 rd1 wf1 (Nat.le_trans l1 m1) rd2 (Nat.le_trans l2 m2)).mono fun e W' ⟨he, bel⟩ => ?_
  subst he
  exact ⟨_, rfl, _, _, _, [], _, [], hW', trodAll_mk1 (shut_bool Try.underlying4 _), (trodAll_cons_mk (Below.trod laidOut (by kernel_rfl) (of_decide_eq_true (by kernel_rfl)) k0 bel lt0) (trodAll_cons_mk (Below.trod laidOut (by kernel_rfl) (of_decide_eq_true (by kernel_rfl)) k1 bel lt1) (trodAll_cons_mk (Below.trod laidOut (by kernel_rfl) (of_decide_eq_true (by kernel_rfl)) k2 bel lt2) trodAll_mk0))), rfl, bel.frame _, fun h => by cases h⟩
theorem over : Rows.wholeSilentRow.holds Try.pinned (OpenSpec.ofChange Rows.wholeSilentSpec) :=
  OpenClaim.holds_of_wide 3 Try.f3 rfl rfl rfl rfl rfl rfl rfl ⟨rfl, rfl, rfl, rfl, rfl⟩ rfl rfl rfl rfl rfl (by kernel_rfl) Try.func3 (by kernel_rfl)
    (of_decide_eq_true (by kernel_rfl)) (by unfold Func.isWrapper; first | (rw [if_pos (by decide +kernel)]; kernel_rfl) | (rw [if_neg (by decide +kernel)]; exact ⟨rfl, rfl⟩))
    (fun os started H enc _ => lifted os started H enc)
end Go.Proofs.Ytgbcnlchpolcbaa.wholeSilent
namespace Go.Proofs.Ytgbcnlchpolcbaa
/-- The law, under a short name. -/
theorem wholeSilent_holds : Rows.WholeSilentSaid := wholeSilent.over
#print axioms wholeSilent_holds
end Go.Proofs.Ytgbcnlchpolcbaa
