/- The law WholeWords as it is given: for every input the call answers true, and each argument reads as it did. No condition. -/
import Derived.Test.YthdblloiapadkaaDoorOpenSh
import Derived.Test.YthdblloiapadkaaDoorCards
import Derived.Test.YthdblloiapadkaaDoorTie
import Derived.Test.YthdblloiapadkaaDoorRows
import Derived.Test.YthdblloiapadkaaDoorLawWords
import Derived.Test.YthdblloiapadkaaDoorOpen
import Derived.WalkKit
import Derived.LaidMore
import Derived.Lay
import Derived.SevenTiedAt
import Derived.Stop.Joined
import Derived.ProofKit
import Derived.OpenShut
import Derived.ShutString
import Derived.ChangeOld
import Derived.Below
import Derived.SizedLaws
namespace Go.Proofs.YthdblloiapadkaaDoor.wholeWords
open Go.ChangeShapes Go.WideShapes Go.ChangeAt Go.RowKit
set_option linter.unusedVariables false
set_option maxRecDepth 100000
theorem own : ownKnob Tryd.prog.godebug = none := by kernel_rfl
theorem laidOut : laidOutB Tryd.prog = true := by kernel_rfl
def Rst54 (w : World) (cs : List Value) (x : (Int × Int × Int × Int × Int)) : Prop := cs.length = 5 ∧ (RInt .i64) w ((cs.drop 0).take 1) x.1 ∧ (RInt .i64) w ((cs.drop 1).take 1) x.2.1 ∧ (RInt .i64) w ((cs.drop 2).take 1) x.2.2.1 ∧ (RInt .i64) w ((cs.drop 3).take 1) x.2.2.2.1 ∧ (RInt .i64) w ((cs.drop 4).take 1) x.2.2.2.2
theorem opens_st54 {H : Type} {enc : TypeId × Value → H} {w : World} : Opens enc Tryd.prog w 54 Rst54 := by
  intro fuel cs y h
  obtain ⟨xs, n, _, _, hl, hxl, hel⟩ := DataW.trod_struct Tryd.underlying54 h
  have hcs : cs.length = 5 := hl.trans (by kernel_rfl)
  have hx0 : 0 < xs.length := by rw [hxl]; decide
  have h0 := hel 0 _ rfl
  rw [List.getElem?_eq_getElem hx0] at h0
  obtain ⟨x0, g0⟩ := (show Opens enc Tryd.prog w 3 (RInt .i64) from (opens_int Tryd.underlying3)) _ _ _ h0
  have hx1 : 1 < xs.length := by rw [hxl]; decide
  have h1 := hel 1 _ rfl
  rw [List.getElem?_eq_getElem hx1] at h1
  obtain ⟨x1, g1⟩ := (show Opens enc Tryd.prog w 3 (RInt .i64) from (opens_int Tryd.underlying3)) _ _ _ h1
  have hx2 : 2 < xs.length := by rw [hxl]; decide
  have h2 := hel 2 _ rfl
  rw [List.getElem?_eq_getElem hx2] at h2
  obtain ⟨x2, g2⟩ := (show Opens enc Tryd.prog w 3 (RInt .i64) from (opens_int Tryd.underlying3)) _ _ _ h2
  have hx3 : 3 < xs.length := by rw [hxl]; decide
  have h3 := hel 3 _ rfl
  rw [List.getElem?_eq_getElem hx3] at h3
  obtain ⟨x3, g3⟩ := (show Opens enc Tryd.prog w 3 (RInt .i64) from (opens_int Tryd.underlying3)) _ _ _ h3
  have hx4 : 4 < xs.length := by rw [hxl]; decide
  have h4 := hel 4 _ rfl
  rw [List.getElem?_eq_getElem hx4] at h4
  obtain ⟨x4, g4⟩ := (show Opens enc Tryd.prog w 3 (RInt .i64) from (opens_int Tryd.underlying3)) _ _ _ h4
  exact ⟨(x0, x1, x2, x3, x4), hcs, g0, g1, g2, g3, g4⟩
def Rst45 (w : World) (cs : List Value) (x : ((List (Int × Int × Int × Int × Int)) × Int × Int)) : Prop := cs.length = 3 ∧ (RSl 5 Rst54) w ((cs.drop 0).take 1) x.1 ∧ (RInt .i64) w ((cs.drop 1).take 1) x.2.1 ∧ (RInt .i64) w ((cs.drop 2).take 1) x.2.2
theorem opens_st45 {H : Type} {enc : TypeId × Value → H} {w : World} : Opens enc Tryd.prog w 45 Rst45 := by
  intro fuel cs y h
  obtain ⟨xs, n, _, _, hl, hxl, hel⟩ := DataW.trod_struct Tryd.underlying45 h
  have hcs : cs.length = 3 := hl.trans (by kernel_rfl)
  have hx0 : 0 < xs.length := by rw [hxl]; decide
  have h0 := hel 0 _ rfl
  rw [List.getElem?_eq_getElem hx0] at h0
  obtain ⟨x0, g0⟩ := (show Opens enc Tryd.prog w 43 (RSl 5 Rst54) from (opens_slice Tryd.underlying43 (by kernel_rfl) opens_st54)) _ _ _ h0
  have hx1 : 1 < xs.length := by rw [hxl]; decide
  have h1 := hel 1 _ rfl
  rw [List.getElem?_eq_getElem hx1] at h1
  obtain ⟨x1, g1⟩ := (show Opens enc Tryd.prog w 3 (RInt .i64) from (opens_int Tryd.underlying3)) _ _ _ h1
  have hx2 : 2 < xs.length := by rw [hxl]; decide
  have h2 := hel 2 _ rfl
  rw [List.getElem?_eq_getElem hx2] at h2
  obtain ⟨x2, g2⟩ := (show Opens enc Tryd.prog w 3 (RInt .i64) from (opens_int Tryd.underlying3)) _ _ _ h2
  exact ⟨(x0, x1, x2), hcs, g0, g1, g2⟩
def Rst32 (w : World) (cs : List Value) (x : (Bool × Int)) : Prop := cs.length = 2 ∧ RBool w ((cs.drop 0).take 1) x.1 ∧ (RInt .i64) w ((cs.drop 1).take 1) x.2
theorem opens_st32 {H : Type} {enc : TypeId × Value → H} {w : World} : Opens enc Tryd.prog w 32 Rst32 := by
  intro fuel cs y h
  obtain ⟨xs, n, _, _, hl, hxl, hel⟩ := DataW.trod_struct Tryd.underlying32 h
  have hcs : cs.length = 2 := hl.trans (by kernel_rfl)
  have hx0 : 0 < xs.length := by rw [hxl]; decide
  have h0 := hel 0 _ rfl
  rw [List.getElem?_eq_getElem hx0] at h0
  obtain ⟨x0, g0⟩ := (show Opens enc Tryd.prog w 4 RBool from (opens_bool Tryd.underlying4)) _ _ _ h0
  have hx1 : 1 < xs.length := by rw [hxl]; decide
  have h1 := hel 1 _ rfl
  rw [List.getElem?_eq_getElem hx1] at h1
  obtain ⟨x1, g1⟩ := (show Opens enc Tryd.prog w 3 (RInt .i64) from (opens_int Tryd.underlying3)) _ _ _ h1
  exact ⟨(x0, x1), hcs, g0, g1⟩
theorem met (os : Os) (args : Array Value) : laidMetH Tryd.prog Rows.wholeWordsRow.laid ((World.laidAll Tryd.prog os Rows.wholeWordsRow.laid).forCall (fun _ _ => 0) ⟨#[], args, []⟩).memory := by
  rw [MakeChecks.laidMetH_plain _ _ _ (by kernel_rfl)]; exact laidMet_laidAll _ (by kernel_rfl) (by kernel_rfl)
theorem lifted (os : Os) (started : os.Started) (H : Type) (enc : TypeId × Value → H) :
    ReturnsInHanded {} Tryd.checked os 14 .any (fun w args => (Rows.wholeWordsSpec.pre enc Tryd.prog Tryd.f14 Rows.wholeWordsRow.domain false w args ∧ laidMetH Tryd.prog Rows.wholeWordsRow.laid w) ∧ sizedMet enc Tryd.prog Tryd.f14 (OpenSpec.ofChange Rows.wholeWordsSpec) false w args) (Rows.wholeWordsSpec.post enc Tryd.prog Tryd.f14 false true false false) := by
  refine change_and_shaped (C := Tryd.checked) (X := fun w _ => laidMetH Tryd.prog Rows.wholeWordsRow.laid w) (fun _ _ _ hh h => h.of_heap hh) own started (by kernel_rfl) Tryd.func14
    (ChangeSpec.witness_shaped (enc := enc) (C := Tryd.checked) (os := os) (X := fun w _ => laidMetH Tryd.prog Rows.wholeWordsRow.laid w) false (World.laidAll Tryd.prog os Rows.wholeWordsRow.laid) #[.agg #[.slice none 0 0, .int .i64 0, .int .i64 0], .slice none 0 0] 8 (World.laidAll_os _ _ _) (World.shaped_of_ZipB (by kernel_rfl) (by kernel_rfl)) (by kernel_rfl) (by kernel_rfl) (by kernel_rfl) (met os _)) ?_
  intro W base args ds gs before hval0 hW hcnd hsz0 hL hsh _
  have hrd : ∀ n d, (n, d) ∈ Rows.wholeWordsRow.laid → Lib.VarReads Tryd.prog W n d := fun n d hm => Lib.laidMet.reads (by rw [MakeChecks.laidMetH_plain _ _ _ (by kernel_rfl)] at hL; exact hL) hm
  have hval : ∀ (j : Nat) t v, Tryd.f14.params[j]? = some t → args[j]? = some v → Value.okWide Tryd.prog W .any base t v := hval0
  have hW' := hW
  obtain ⟨p, q, hA0, hV, rfl, hfz, hnd⟩ := hW
  have hA : DataW.TrodAll enc Tryd.prog W 0 (fun _ => true) true Tryd.f14.params.toList args.toList ds p := hA0
  rw [Tryd.params14] at hA hval
  obtain ⟨v0, vs0, d0, ds0, p0, q0, hargs, rfl, rfl, h0, r0⟩ := trodAll_cons hA
  obtain ⟨v1, vs1, d1, ds1, p1, q1, rfl, rfl, rfl, h1, r1⟩ := trodAll_cons r0
  obtain ⟨rfl, rfl, rfl⟩ := trodAll_nil r1
  obtain rfl : args = #[v0, v1] := by cases args; simp_all
  obtain ⟨rfl, rfl⟩ := trodVars_none hV
  have k0 := h0
  have lt0 : ∀ x ∈ p0, x.block < W.heap.size := by obtain ⟨m, hm⟩ := k0; exact DataW.trod_lt m _ _ _ hm
  obtain ⟨fuel0, hf0⟩ := h0
  obtain ⟨x0, o0⟩ := (show Opens enc Tryd.prog W 45 Rst45 from opens_st45) _ _ _ hf0
  obtain ⟨cs0, rfl, sz0⟩ : ∃ cs : Array Value, v0 = .agg cs ∧ cs.size = 3 := by
    have hh := (hval 0 45 v0 rfl rfl)
    simp only [Value.okWide, Tryd.underlying45] at hh
    obtain ⟨cs, h1, h2, _⟩ := hh
    exact ⟨cs, h1, h2.trans (by kernel_rfl)⟩
  have k1 := h1
  have lt1 : ∀ x ∈ p1, x.block < W.heap.size := by obtain ⟨m, hm⟩ := k1; exact DataW.trod_lt m _ _ _ hm
  obtain ⟨fuel1, hf1⟩ := h1
  obtain ⟨x1, o1⟩ := (show Opens enc Tryd.prog W 36 (RSl 2 Rst32) from (opens_slice Tryd.underlying36 (by kernel_rfl) opens_st32)) _ _ _ hf1
  obtain ⟨a1, len1, cap1, rfl⟩ := okWide_slice Tryd.underlying36 (hval 1 36 v1 rfl rfl)
  obtain ⟨A1, c1, e1, l1, m1, rd1⟩ := o1
  injection e1 with e1 _
  cases e1
  refine (wholeWords cs0 x0 a1 cap1 x1 W o0 rd1 (Nat.le_trans l1 m1) (tab_pow (hrd "internal/strconv.uint64pow10" Rows.laid_internal_strconv_uint64pow10 (by simp [Rows.wholeWordsRow]))) (tab_erv (hrd "strconv.ErrSyntax" Rows.laid_strconv_ErrSyntax (by simp [Rows.wholeWordsRow])) (hrd "strconv.ErrRange" Rows.laid_strconv_ErrRange (by simp [Rows.wholeWordsRow]))) (tab_max hsh)).mono fun e W' ⟨he, bel⟩ => ?_
  subst he
  exact ⟨_, rfl, _, _, _, [], _, [], hW', trodAll_mk1 (shut_bool Tryd.underlying4 _), (trodAll_cons_mk (Below.trod laidOut (by kernel_rfl) (of_decide_eq_true (by kernel_rfl)) k0 bel lt0) (trodAll_cons_mk (Below.trod laidOut (by kernel_rfl) (of_decide_eq_true (by kernel_rfl)) k1 bel lt1) trodAll_mk0)), rfl, bel.frame _, fun h => by cases h⟩
theorem over : Rows.wholeWordsRow.holds Tryd.pinned (OpenSpec.ofChange Rows.wholeWordsSpec) :=
  OpenClaim.holds_of_wide 14 Tryd.f14 rfl rfl rfl rfl rfl rfl rfl ⟨rfl, rfl, rfl, rfl, rfl⟩ rfl rfl rfl rfl rfl (by kernel_rfl) Tryd.func14 (by kernel_rfl)
    (of_decide_eq_true (by kernel_rfl)) (by unfold Func.isWrapper; first | (rw [if_pos (by decide +kernel)]; kernel_rfl) | (rw [if_neg (by decide +kernel)]; exact ⟨rfl, rfl⟩))
    (fun os started H enc _ => lifted os started H enc)
end Go.Proofs.YthdblloiapadkaaDoor.wholeWords
namespace Go.Proofs.YthdblloiapadkaaDoor
open Go.ChangeShapes Go.WideShapes Go.ChangeAt Go.RowKit
set_option maxRecDepth 100000
/-- The law, under a short name: the card, tied. -/
theorem wholeWords_holds : Rows.WholeWordsCardSaid :=
  Claim7.holds_tied_plain_at .later [] [.data, .data, .data, .data, .sentinel, .sentinel, .pinned] true (true, "6ef71f8c02f1c71461c29320a1248e4af36b8a63e46ca61e53458e415f3eb3d6") true wholeWords.over (fun _ h => by cases h) (by kernel_rfl) (fun _ h => by cases h) wholeWords_row_tie rfl ⟨rfl, rfl⟩ (by kernel_rfl) rfl
    (fun f fn hf hfn => by
      obtain rfl : f = 14 := Option.some.inj ((show Tryd.prog.funcNamed "tidewaiter/tidewaitertop.WholeWords" = some 14 by kernel_rfl).symm.trans hf) |>.symm
      obtain rfl : fn = Tryd.f14 := (Option.some.inj (Tryd.func14.symm.trans hfn)).symm
      exact ⟨by kernel_rfl, fun j t ht => by
        rw [Tryd.params14] at ht
        have hm : t ∈ [45, 36] := by simpa using Array.mem_of_getElem? ht
        have hall : ([45, 36].all fun u => !Tryd.prog.wantsStandIn u) = true := by kernel_rfl
        exact (show Tryd.prog.wantsStandIn t = false by simpa using List.all_eq_true.1 hall t hm)⟩)
    (by kernel_rfl)
#print axioms wholeWords_holds
end Go.Proofs.YthdblloiapadkaaDoor
