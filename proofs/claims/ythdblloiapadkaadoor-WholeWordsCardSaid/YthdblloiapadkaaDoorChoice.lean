
/- Choices (package choice), walked. No condition but the tables and variables of Go's own library. -/
import Derived.Test.YthdblloiapadkaaDoorNumsW
import Derived.Test.YthdblloiapadkaaDoorChoicePure
import Derived.Laws.ResultCell
namespace Go.Proofs.YthdblloiapadkaaDoor
set_option maxRecDepth 100000
set_option linter.unusedSimpArgs false
open Go.RowKit
set_option linter.unusedVariables false
set_option linter.unusedSimpArgs false

theorem results_cell1 {fn : Func} {p : Tmp} {ty : TypeId} (h : fn.results = #[.cell p ty]) (tmps : Array Value) (P : Program) (w : World) :
    (results fn tmps).run P w = ((asAddr (tmps.getD p undef)).run P w).andThen fun a w₁ => ((loadVar ty a).run P w₁).andThen fun v w₂ => .ok v w₂ := by
  simp only [results, h]
  simp [Sem.run_bind, Result.andThen]
  split
  · split <;> assumption
  · rfl
/-- the length of the longest text that is looked for at once -/
def MaxT (w : World) : Prop := ∃ m, w.cell? ⟨3, 0, none⟩ = some (.int .i64 m)
theorem MaxT.below {w w' : World} (h : MaxT w) (hb : Below w.heap.size w w') : MaxT w' := by
  obtain ⟨m, hm⟩ := h
  exact ⟨m, (hb.cell (World.block_lt_of_cell? w _ hm)).trans hm⟩
theorem tab_max {w : World} (h : w.ShapedOpen Tryd.prog) : MaxT w := Tryd.laysM145.s1_3 w h
def chV (t : Bool) (n : Int) : Value := .agg #[.bool t, .int .i64 n]
theorem choice_Poll (n : Int) (w : World) : Calls Tryd.prog 31 #[.int .i64 n] w fun e w' => e = .returned (.agg #[.bool false, .int .i64 n]) ∧ Below w.heap.size w w' := by
  have HB0 := hid' (bel_alloc (bel_refl w) (.cells #[.bool false, .int .i64 0] 32))
  have HK := hid' (Blk.new_ w 32 #[.bool false, .int .i64 0])
  have c0 := HK.out.frozen 0
  have c1 := HK.out.frozen 1
  go_enter Tryd.func31, Tryd.ntmps31
  go_wp2
  refine bodyPost_ret (v := chV false n) ?_ rfl ⟨rfl, ?_⟩
  · rw [results_cell1 rfl]; unfold chV; go_simp
  · exact bel_alloc (bel_refl w) _
theorem choice_Tick (n : Int) (w : World) : Calls Tryd.prog 30 #[.int .i64 n] w fun e w' => e = .returned (.agg #[.bool true, .int .i64 n]) ∧ Below w.heap.size w w' := by
  have HB0 := hid' (bel_alloc (bel_refl w) (.cells #[.bool false, .int .i64 0] 32))
  have HK := hid' (Blk.new_ w 32 #[.bool false, .int .i64 0])
  have c0 := HK.out.frozen 0
  have c1 := HK.out.frozen 1
  go_enter Tryd.func30, Tryd.ntmps30
  go_wp2
  refine bodyPost_ret (v := chV true n) ?_ rfl ⟨rfl, ?_⟩
  · rw [results_cell1 rfl]; unfold chV; go_simp
  · exact bel_alloc (bel_refl w) _
theorem cutW (c : UInt8) (s sep : ByteArray) (w : World) (hsep : sep = ⟨#[c]⟩) (hs : s.size ≤ 1000000) (hM : MaxT w) :
    Calls Tryd.prog 61 #[.string s, .string sep] w fun e w' => e = .returned (.tuple #[.string (strOf (cutS c (bL s)).1), .string (strOf (cutS c (bL s)).2.1), .bool (cutS c (bL s)).2.2]) ∧ Below w.heap.size w w' := by
  obtain ⟨m, hm⟩ := hM
  subst hsep
  have h := Tryd.strings_Cut s ⟨#[c]⟩ m w (by omega) hm
  have h2 : Lib.cut s.data.toList (⟨#[c]⟩ : ByteArray).data.toList = cutS c (bL s) := cut_S c (bL s)
  rw [h2] at h
  exact h.mono fun e w' ⟨he, n, hw⟩ => ⟨he, by rw [hw]; exact (show Dr w (w.drewN n) from ⟨n, rfl⟩).below⟩
theorem cutS_le (c : UInt8) : ∀ l : List UInt8, (cutS c l).1.length ≤ l.length ∧ (cutS c l).2.1.length ≤ l.length
  | [] => ⟨Nat.le_refl _, Nat.le_refl _⟩
  | x :: l => by
    have := cutS_le c l
    unfold cutS
    split
    · simp
    · simp only [List.length_cons]; omega
def chO (o : Option (Bool × Int)) : Value := match o with | some x => chV x.1 x.2 | none => chV false 0
set_option maxHeartbeats 8000000 in
theorem choice_Read (s : ByteArray) (w : World) (hs : s.size ≤ 100000) (hP : PowT w) (hE : ErV w) (hM : MaxT w) :
    Calls Tryd.prog 25 #[.string s] w fun e w' => e = .returned (.tuple #[chO (readP (bL s)), .bool (readP (bL s)).isSome]) ∧ Below w.heap.size w w' := by
  have HP := hid' hP
  have HE := hid' hE
  have HB0 := hid' (bel_alloc (bel_refl w) (.cells #[.bool false, .int .i64 0] 32))
  have HK0 := hid' (Blk.new_ w 32 #[.bool false, .int .i64 0])
  have HCUT := hid' (fun W hM => cutW 32 s ⟨#[32]⟩ W rfl (by omega) hM)
  have hro : readP (bL s) = if (cutS 32 (bL s)).2.2 = true then (if rdOk (strOf (cutS 32 (bL s)).2.1) = true then (if strOf (cutS 32 (bL s)).1 = strOf pollL then some (false, rdV (strOf (cutS 32 (bL s)).2.1)) else if strOf (cutS 32 (bL s)).1 = strOf tickL then some (true, rdV (strOf (cutS 32 (bL s)).2.1)) else none) else none) else none := by
    unfold readP rdOk rdV
    rw [bL_str]
    have hinj : ∀ a b : List UInt8, (strOf a = strOf b) = (a = b) := fun a b => propext ⟨fun h => (show bL (strOf a) = bL (strOf b) by rw [h]), fun h => by rw [h]⟩
    simp only [hinj]
    cases rdN (cutS 32 (bL s)).2.1 <;> simp
  have hcl := cutS_le 32 (bL s)
  rw [bL_len] at hcl
  have hbz : (strOf (cutS 32 (bL s)).2.1).size ≤ 200000 := by show (cutS 32 (bL s)).2.1.length ≤ _; omega
  obtain ⟨o, ho⟩ : ∃ o, o = readP (bL s) := ⟨_, rfl⟩
  rw [← ho] at hro ⊢
  clear hcl ho hP hE
  have HM := hid' hM
  generalize strOf (cutS 32 (bL s)).1 = a at *
  generalize strOf (cutS 32 (bL s)).2.1 = b at *
  generalize (cutS 32 (bL s)).2.2 = f at *
  go_enter Tryd.func25, Tryd.ntmps25
  go_wp2_with fail
  refine (HCUT.out _ (HM.out.below HB0.out)).mono ?_
  rintro e w1 ⟨rfl, hB1⟩
  have HL1 := hid' (bel_then HB0.out hB1)
  have HK1 := hid' (HK0.out.below hB1)
  clear hB1 HK0 HB0
  go_wp2_with fail
  have hba := bel_alloc (bel_refl w1) (.cells #[.string b] 9)
  have HLa := hid' (bel_then HL1.out hba)
  have HKa := hid' (HK1.out.below hba)
  refine (config_Numbers _ 1 [b] _ ((Blk.new_ w1 9 #[.string b]).rd rfl) (by simp) (by intro x hx; rw [List.mem_singleton] at hx; subst hx; exact hbz) (HP.out.below HLa.out) (HE.out.below HLa.out)).mono ?_
  rintro e w2 ⟨hcase, hB2⟩
  have HL2 := hid' (bel_then HLa.out hB2)
  have HK2 := hid' (HKa.out.below hB2)
  have c0 : w2.cell? ⟨w.heap.size, 0, none⟩ = some (.bool false) := by simpa using HK2.out.cell 0
  have c1 : w2.cell? ⟨w.heap.size, 1, none⟩ = some (.int .i64 0) := by simpa using HK2.out.cell 1
  have f0 := HK2.out.frozen 0
  have f1 := HK2.out.frozen 1
  have hsh := HK2.out.shape
  have hok1 : numsOk [b] = rdOk b := by unfold numsOk; simp
  rw [hok1] at hcase
  clear hba hB2 HKa HLa HK1 HL1 hok1
  rcases hcase with ⟨hk, v, rfl, hown⟩ | ⟨hk, rfl⟩
  · rw [hk, if_pos rfl] at hro
    obtain ⟨A, c, rfl, hc1, hc2, hrd⟩ := own_rd hown
    obtain ⟨ad, hA, hcell⟩ := hrd 0 _ (show ([b].map fun x => iV (rdV x))[0]? = some (iV (rdV b)) from rfl)
    subst hA
    change w2.cell? ad = some (.int .i64 (rdV b)) at hcell
    have hI := (rdOk_num hk).2.1
    clear hown hrd hk
    generalize rdV b = n at *
    cases f with
    | false =>
      have hro2 : o = none := by rw [hro]; rfl
      subst hro2
      clear hro
      go_wp2
      refine bodyPost_ret (v := .tuple #[chV false 0, .bool false]) ?_ rfl ⟨rfl, ?_⟩
      · rw [results_cell_tmp rfl]; (try unfold chV); go_simp
      · repeat (first | exact HL2.out | refine bel_set ?_ (by exact Nat.le_refl _) _)
    | true =>
      rw [if_pos rfl] at hro
      by_cases h1 : a = strOf pollL
      · have hro2 : o = some (false, n) := by rw [hro, if_pos h1]
        subst hro2
        have ht : a.toList = [112, 111, 108, 108] := by rw [h1]; exact ByteArray.toList_eq _
        clear hro h1
        go_wp2_with fail
        refine (choice_Poll n w2).mono ?_
        rintro e w3 ⟨rfl, hB3⟩
        have HL3 := hid' (bel_then HL2.out hB3)
        have HK3 := hid' (HK2.out.below hB3)
        clear hB3 c0 c1 f0 f1 hsh hcell
        have c0 : w3.cell? ⟨w.heap.size, 0, none⟩ = some (.bool false) := by simpa using HK3.out.cell 0
        have c1 : w3.cell? ⟨w.heap.size, 1, none⟩ = some (.int .i64 0) := by simpa using HK3.out.cell 1
        have f0 := HK3.out.frozen 0
        have f1 := HK3.out.frozen 1
        have hsh := HK3.out.shape
        go_wp2
        refine bodyPost_ret (v := .tuple #[chV false n, .bool true]) ?_ rfl ⟨rfl, ?_⟩
        · rw [results_cell_tmp rfl]; (try unfold chV); go_simp
        · repeat (first | exact HL3.out | refine bel_set ?_ (by exact Nat.le_refl _) _)
      · rw [if_neg h1] at hro
        have ht1 : (a.toList == [112, 111, 108, 108]) = false := by
          rw [beq_eq_false_iff_ne]
          intro e
          rw [ByteArray.toList_eq] at e
          exact h1 (bL_inj e)
        by_cases h2 : a = strOf tickL
        · have hro2 : o = some (true, n) := by rw [hro, if_pos h2]
          subst hro2
          have ht : a.toList = [116, 105, 99, 107] := by rw [h2]; exact ByteArray.toList_eq _
          clear hro h1 h2
          go_wp2_with fail
          refine (choice_Tick n w2).mono ?_
          rintro e w3 ⟨rfl, hB3⟩
          have HL3 := hid' (bel_then HL2.out hB3)
          have HK3 := hid' (HK2.out.below hB3)
          clear hB3 c0 c1 f0 f1 hsh hcell
          have c0 : w3.cell? ⟨w.heap.size, 0, none⟩ = some (.bool false) := by simpa using HK3.out.cell 0
          have c1 : w3.cell? ⟨w.heap.size, 1, none⟩ = some (.int .i64 0) := by simpa using HK3.out.cell 1
          have f0 := HK3.out.frozen 0
          have f1 := HK3.out.frozen 1
          have hsh := HK3.out.shape
          go_wp2
          refine bodyPost_ret (v := .tuple #[chV true n, .bool true]) ?_ rfl ⟨rfl, ?_⟩
          · rw [results_cell_tmp rfl]; (try unfold chV); go_simp
          · repeat (first | exact HL3.out | refine bel_set ?_ (by exact Nat.le_refl _) _)
        · have ht2 : (a.toList == [116, 105, 99, 107]) = false := by
            rw [beq_eq_false_iff_ne]
            intro e
            rw [ByteArray.toList_eq] at e
            exact h2 (bL_inj e)
          have hro2 : o = none := by rw [hro, if_neg h2]
          subst hro2
          clear hro h1 h2
          go_wp2
          refine bodyPost_ret (v := .tuple #[chV false 0, .bool false]) ?_ rfl ⟨rfl, ?_⟩
          · rw [results_cell_tmp rfl]; (try unfold chV); go_simp
          · repeat (first | exact HL2.out | refine bel_set ?_ (by exact Nat.le_refl _) _)
  · rw [hk] at hro
    have hro2 : o = none := by rw [hro]; simp
    subst hro2
    clear hro hk
    cases f with
    | false =>
      go_wp2
      refine bodyPost_ret (v := .tuple #[chV false 0, .bool false]) ?_ rfl ⟨rfl, ?_⟩
      · rw [results_cell_tmp rfl]; (try unfold chV); go_simp
      · repeat (first | exact HL2.out | refine bel_set ?_ (by exact Nat.le_refl _) _)
    | true =>
      go_wp2
      refine bodyPost_ret (v := .tuple #[chV false 0, .bool false]) ?_ rfl ⟨rfl, ?_⟩
      · rw [results_cell_tmp rfl]; (try unfold chV); go_simp
      · repeat (first | exact HL2.out | refine bel_set ?_ (by exact Nat.le_refl _) _)
end Go.Proofs.YthdblloiapadkaaDoor
