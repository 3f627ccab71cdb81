/- Several texts as one. No condition beyond each one's own. -/
import Derived.Test.YtockkjhciojgbaaGreatDoorNumsW
import Derived.Test.YtockkjhciojgbaaGreatDoorChoicePure
import Derived.Laws.ResultCell
import Derived.Test.YtockkjhciojgbaaGreatDoorCells
import Derived.Test.YtockkjhciojgbaaGreatDoorPackA
import Derived.Test.YtockkjhciojgbaaGreatDoorProg
import Derived.Lib.QuietBelow
/- Choice -/
/- Choices (package choice), walked. No condition but the tables and variables of Go's own library. -/
namespace Go.Proofs.YtockkjhciojgbaaGreatDoor
set_option maxRecDepth 100000
set_option linter.unusedSimpArgs false
open Go.RowKit
set_option linter.unusedVariables false
set_option linter.unusedSimpArgs false

theorem results_cellC {fn : Func} {p : Tmp} {ty : TypeId} (h : fn.results = #[.cell p ty]) (tmps : Array Value) (P : Program) (w : World) :
    (results fn tmps).run P w = ((asAddr (tmps.getD p undef)).run P w).andThen fun a w₁ => ((loadVar ty a).run P w₁).andThen fun v w₂ => .ok v w₂ := by
  simp only [results, h]
  simp [Sem.run_bind, Result.andThen]
  split
  · split <;> assumption
  · rfl
/-- the length of the longest text that is looked for at once -/
def MaxT (w : World) : Prop := ∃ m, w.cell? ⟨0, 0, none⟩ = some (.int .i64 m)
theorem MaxT.below {w w' : World} (h : MaxT w) (hb : Below w.heap.size w w') : MaxT w' := by
  obtain ⟨m, hm⟩ := h
  exact ⟨m, (hb.cell (World.block_lt_of_cell? w _ hm)).trans hm⟩
theorem tab_max {w : World} (h : w.ShapedOpen Tryz.prog) : MaxT w := Tryz.laysM145.s1_3 w h
def chV (t : Bool) (n : Int) : Value := .agg #[.bool t, .int .i64 n]
theorem choice_Poll (n : Int) (w : World) : Calls Tryz.prog 114 #[.int .i64 n] w fun e w' => e = .returned (.agg #[.bool false, .int .i64 n]) ∧ Below w.heap.size w w' := by
  have HB0 := hid' (bel_alloc (bel_refl w) (.cells #[.bool false, .int .i64 0] 52))
  have HK := hid' (Blk.new_ w 52 #[.bool false, .int .i64 0])
  have c0 := HK.out.frozen 0
  have c1 := HK.out.frozen 1
  go_enter Tryz.func114, Tryz.ntmps114
  go_wp2
  refine bodyPost_ret (v := chV false n) ?_ rfl ⟨rfl, ?_⟩
  · rw [results_cellC rfl]; unfold chV; go_simp
  · exact bel_alloc (bel_refl w) _
theorem choice_Tick (n : Int) (w : World) : Calls Tryz.prog 115 #[.int .i64 n] w fun e w' => e = .returned (.agg #[.bool true, .int .i64 n]) ∧ Below w.heap.size w w' := by
  have HB0 := hid' (bel_alloc (bel_refl w) (.cells #[.bool false, .int .i64 0] 52))
  have HK := hid' (Blk.new_ w 52 #[.bool false, .int .i64 0])
  have c0 := HK.out.frozen 0
  have c1 := HK.out.frozen 1
  go_enter Tryz.func115, Tryz.ntmps115
  go_wp2
  refine bodyPost_ret (v := chV true n) ?_ rfl ⟨rfl, ?_⟩
  · rw [results_cellC rfl]; unfold chV; go_simp
  · exact bel_alloc (bel_refl w) _
theorem cutW (c : UInt8) (s sep : ByteArray) (w : World) (hsep : sep = ⟨#[c]⟩) (hs : s.size ≤ 1000000) (hM : MaxT w) :
    Calls Tryz.prog 112 #[.string s, .string sep] w fun e w' => e = .returned (.tuple #[.string (strOf (cutS c (bL s)).1), .string (strOf (cutS c (bL s)).2.1), .bool (cutS c (bL s)).2.2]) ∧ Below w.heap.size w w' := by
  obtain ⟨m, hm⟩ := hM
  subst hsep
  have h := Tryz.strings_Cut s ⟨#[c]⟩ m w (by omega) hm
  have h2 : Lib.cut s.data.toList (⟨#[c]⟩ : ByteArray).data.toList = cutS c (bL s) := cut_S c (bL s)
  rw [h2] at h
  exact h.mono fun e w' ⟨he, n, hw⟩ => ⟨he, by rw [hw]; exact (show Dr w (w.drewN n) from ⟨n, rfl⟩).below⟩
theorem cutS_le (c : UInt8) : ∀ l : List UInt8, (cutS c l).1.length ≤ l.length ∧ (cutS c l).2.1.length ≤ l.length
  | [] => ⟨Nat.le_refl _, Nat.le_refl _⟩
  | x :: l => by
    have := cutS_le c l
    unfold cutS
    split
    · simp
    · simp only [List.length_cons]; omega
def chO (o : Option (Bool × Int)) : Value := match o with | some x => chV x.1 x.2 | none => chV false 0
set_option maxHeartbeats 8000000 in
theorem choice_Read (s : ByteArray) (w : World) (hs : s.size ≤ 100000) (hP : PowT w) (hE : ErV w) (hM : MaxT w) :
    Calls Tryz.prog 70 #[.string s] w fun e w' => e = .returned (.tuple #[chO (readP (bL s)), .bool (readP (bL s)).isSome]) ∧ Below w.heap.size w w' := by
  have HP := hid' hP
  have HE := hid' hE
  have HB0 := hid' (bel_alloc (bel_refl w) (.cells #[.bool false, .int .i64 0] 52))
  have HK0 := hid' (Blk.new_ w 52 #[.bool false, .int .i64 0])
  have HCUT := hid' (fun W hM => cutW 32 s ⟨#[32]⟩ W rfl (by omega) hM)
  have hro : readP (bL s) = if (cutS 32 (bL s)).2.2 = true then (if rdOk (strOf (cutS 32 (bL s)).2.1) = true then (if strOf (cutS 32 (bL s)).1 = strOf pollL then some (false, rdV (strOf (cutS 32 (bL s)).2.1)) else if strOf (cutS 32 (bL s)).1 = strOf tickL then some (true, rdV (strOf (cutS 32 (bL s)).2.1)) else none) else none) else none := by
    unfold readP rdOk rdV
    rw [bL_str]
    have hinj : ∀ a b : List UInt8, (strOf a = strOf b) = (a = b) := fun a b => propext ⟨fun h => (show bL (strOf a) = bL (strOf b) by rw [h]), fun h => by rw [h]⟩
    simp only [hinj]
    cases rdN (cutS 32 (bL s)).2.1 <;> simp
  have hcl := cutS_le 32 (bL s)
  rw [bL_len] at hcl
  have hbz : (strOf (cutS 32 (bL s)).2.1).size ≤ 200000 := by show (cutS 32 (bL s)).2.1.length ≤ _; omega
  obtain ⟨o, ho⟩ : ∃ o, o = readP (bL s) := ⟨_, rfl⟩
  rw [← ho] at hro ⊢
  clear hcl ho hP hE
  have HM := hid' hM
  generalize strOf (cutS 32 (bL s)).1 = a at *
  generalize strOf (cutS 32 (bL s)).2.1 = b at *
  generalize (cutS 32 (bL s)).2.2 = f at *
  go_enter Tryz.func70, Tryz.ntmps70
  go_wp2_with fail
  refine (HCUT.out _ (HM.out.below HB0.out)).mono ?_
  rintro e w1 ⟨rfl, hB1⟩
  have HL1 := hid' (bel_then HB0.out hB1)
  have HK1 := hid' (HK0.out.below hB1)
  clear hB1 HK0 HB0
  go_wp2_with fail
  have hba := bel_alloc (bel_refl w1) (.cells #[.string b] 9)
  have HLa := hid' (bel_then HL1.out hba)
  have HKa := hid' (HK1.out.below hba)
  refine (config_Numbers _ 1 [b] _ ((Blk.new_ w1 9 #[.string b]).rd rfl) (by simp) (by intro x hx; rw [List.mem_singleton] at hx; subst hx; exact hbz) (HP.out.below HLa.out) (HE.out.below HLa.out)).mono ?_
  rintro e w2 ⟨hcase, hB2⟩
  have HL2 := hid' (bel_then HLa.out hB2)
  have HK2 := hid' (HKa.out.below hB2)
  have c0 : w2.cell? ⟨w.heap.size, 0, none⟩ = some (.bool false) := by simpa using HK2.out.cell 0
  have c1 : w2.cell? ⟨w.heap.size, 1, none⟩ = some (.int .i64 0) := by simpa using HK2.out.cell 1
  have f0 := HK2.out.frozen 0
  have f1 := HK2.out.frozen 1
  have hsh := HK2.out.shape
  have hok1 : numsOk [b] = rdOk b := by unfold numsOk; simp
  rw [hok1] at hcase
  clear hba hB2 HKa HLa HK1 HL1 hok1
  rcases hcase with ⟨hk, v, rfl, hown⟩ | ⟨hk, rfl⟩
  · rw [hk, if_pos rfl] at hro
    obtain ⟨A, c, rfl, hc1, hc2, hrd⟩ := own_rd hown
    obtain ⟨ad, hA, hcell⟩ := hrd 0 _ (show ([b].map fun x => iV (rdV x))[0]? = some (iV (rdV b)) from rfl)
    subst hA
    change w2.cell? ad = some (.int .i64 (rdV b)) at hcell
    have hI := (rdOk_num hk).2.1
    clear hown hrd hk
    generalize rdV b = n at *
    cases f with
    | false =>
      have hro2 : o = none := by rw [hro]; rfl
      subst hro2
      clear hro
      go_wp2
      refine bodyPost_ret (v := .tuple #[chV false 0, .bool false]) ?_ rfl ⟨rfl, ?_⟩
      · rw [results_cell_tmp rfl]; (try unfold chV); go_simp
      · repeat (first | exact HL2.out | refine bel_set ?_ (by exact Nat.le_refl _) _)
    | true =>
      rw [if_pos rfl] at hro
      by_cases h1 : a = strOf pollL
      · have hro2 : o = some (false, n) := by rw [hro, if_pos h1]
        subst hro2
        have ht : a.toList = [112, 111, 108, 108] := by rw [h1]; exact ByteArray.toList_eq _
        clear hro h1
        go_wp2_with fail
        refine (choice_Poll n w2).mono ?_
        rintro e w3 ⟨rfl, hB3⟩
        have HL3 := hid' (bel_then HL2.out hB3)
        have HK3 := hid' (HK2.out.below hB3)
        clear hB3 c0 c1 f0 f1 hsh hcell
        have c0 : w3.cell? ⟨w.heap.size, 0, none⟩ = some (.bool false) := by simpa using HK3.out.cell 0
        have c1 : w3.cell? ⟨w.heap.size, 1, none⟩ = some (.int .i64 0) := by simpa using HK3.out.cell 1
        have f0 := HK3.out.frozen 0
        have f1 := HK3.out.frozen 1
        have hsh := HK3.out.shape
        go_wp2
        refine bodyPost_ret (v := .tuple #[chV false n, .bool true]) ?_ rfl ⟨rfl, ?_⟩
        · rw [results_cell_tmp rfl]; (try unfold chV); go_simp
        · repeat (first | exact HL3.out | refine bel_set ?_ (by exact Nat.le_refl _) _)
      · rw [if_neg h1] at hro
        have ht1 : (a.toList == [112, 111, 108, 108]) = false := by
          rw [beq_eq_false_iff_ne]
          intro e
          rw [ByteArray.toList_eq] at e
          exact h1 (bL_inj e)
        by_cases h2 : a = strOf tickL
        · have hro2 : o = some (true, n) := by rw [hro, if_pos h2]
          subst hro2
          have ht : a.toList = [116, 105, 99, 107] := by rw [h2]; exact ByteArray.toList_eq _
          clear hro h1 h2
          go_wp2_with fail
          refine (choice_Tick n w2).mono ?_
          rintro e w3 ⟨rfl, hB3⟩
          have HL3 := hid' (bel_then HL2.out hB3)
          have HK3 := hid' (HK2.out.below hB3)
          clear hB3 c0 c1 f0 f1 hsh hcell
          have c0 : w3.cell? ⟨w.heap.size, 0, none⟩ = some (.bool false) := by simpa using HK3.out.cell 0
          have c1 : w3.cell? ⟨w.heap.size, 1, none⟩ = some (.int .i64 0) := by simpa using HK3.out.cell 1
          have f0 := HK3.out.frozen 0
          have f1 := HK3.out.frozen 1
          have hsh := HK3.out.shape
          go_wp2
          refine bodyPost_ret (v := .tuple #[chV true n, .bool true]) ?_ rfl ⟨rfl, ?_⟩
          · rw [results_cell_tmp rfl]; (try unfold chV); go_simp
          · repeat (first | exact HL3.out | refine bel_set ?_ (by exact Nat.le_refl _) _)
        · have ht2 : (a.toList == [116, 105, 99, 107]) = false := by
            rw [beq_eq_false_iff_ne]
            intro e
            rw [ByteArray.toList_eq] at e
            exact h2 (bL_inj e)
          have hro2 : o = none := by rw [hro, if_neg h2]
          subst hro2
          clear hro h1 h2
          go_wp2
          refine bodyPost_ret (v := .tuple #[chV false 0, .bool false]) ?_ rfl ⟨rfl, ?_⟩
          · rw [results_cell_tmp rfl]; (try unfold chV); go_simp
          · repeat (first | exact HL2.out | refine bel_set ?_ (by exact Nat.le_refl _) _)
  · rw [hk] at hro
    have hro2 : o = none := by rw [hro]; simp
    subst hro2
    clear hro hk
    cases f with
    | false =>
      go_wp2
      refine bodyPost_ret (v := .tuple #[chV false 0, .bool false]) ?_ rfl ⟨rfl, ?_⟩
      · rw [results_cell_tmp rfl]; (try unfold chV); go_simp
      · repeat (first | exact HL2.out | refine bel_set ?_ (by exact Nat.le_refl _) _)
    | true =>
      go_wp2
      refine bodyPost_ret (v := .tuple #[chV false 0, .bool false]) ?_ rfl ⟨rfl, ?_⟩
      · rw [results_cell_tmp rfl]; (try unfold chV); go_simp
      · repeat (first | exact HL2.out | refine bel_set ?_ (by exact Nat.le_refl _) _)
end Go.Proofs.YtockkjhciojgbaaGreatDoor
/- ChoiceB -/
/- Choices in words, in rounds, and their ticks, walked. No condition but the tables and variables of Go's own library. -/
namespace Go.Proofs.YtockkjhciojgbaaGreatDoor
set_option maxRecDepth 100000
set_option linter.unusedSimpArgs false
open Go.RowKit
set_option linter.unusedVariables false
set_option linter.unusedSimpArgs false

def lineS (t : Bool) (n : Int) : ByteArray := strOf (lineL t n)
theorem lineS_tick (n : Int) : (⟨#[116, 105, 99, 107, 32]⟩ : ByteArray) ++ numT n = lineS true n := by
  unfold lineS lineL numT
  rw [if_pos rfl, show (⟨#[116, 105, 99, 107, 32]⟩ : ByteArray) = strOf [116, 105, 99, 107, 32] from rfl, strN_app]; rfl
theorem lineS_poll (n : Int) : (⟨#[112, 111, 108, 108, 32]⟩ : ByteArray) ++ numT n = lineS false n := by
  unfold lineS lineL numT
  rw [show (⟨#[112, 111, 108, 108, 32]⟩ : ByteArray) = strOf [112, 111, 108, 108, 32] from rfl, strN_app]; rfl
theorem lineS_size (t : Bool) {n : Int} (h : I64 n) : (lineS t n).size ≤ 26 := by
  have := itoa_len h
  show (lineL t n).length ≤ 26
  unfold lineL
  rw [List.length_append, List.length_cons]
  cases t
  · show 4 + _ ≤ _; omega
  · show 4 + _ ≤ _; omega
theorem choice_Line (t : Bool) (n : Int) (w : World) (h : I64 n) (hP : PowT w) :
    Calls Tryz.prog 33 #[.agg #[.bool t, .int .i64 n]] w fun e w' => e = .returned (.string (lineS t n)) ∧ Below w.heap.size w w' := by
  have HP := hid' hP
  clear hP
  have HB0 := hid' (bel_alloc (bel_refl w) (.cells #[.bool t, .int .i64 n] 52))
  have HK := hid' (Blk.new_ w 52 #[.bool t, .int .i64 n])
  have hz := numT_size h
  have h1 := lineS_tick n
  have h2 := lineS_poll n
  have H1 := hid' h1
  have H2 := hid' h2
  have hs5 : 5 + (numT n).size ≤ 9223372036854775807 := by omega
  have HN := hid' (fun W (hB : Below w.heap.size w W) => itoaW n W h (HP.out.below hB))
  clear h1 h2 hz
  generalize numT n = y at *
  cases t with
  | true =>
    go_enter Tryz.func33, Tryz.ntmps33
    go_wp2_with fail
    refine (HN.out _ HB0.out).mono ?_
    rintro e w2 ⟨rfl, hB⟩
    have HB := hid' (bel_then HB0.out hB)
    clear hB
    go_wp2
    go_ret
    refine ⟨?_, HB.out⟩
    rw [← H1.out]
    first | rfl | go_simp
  | false =>
    go_enter Tryz.func33, Tryz.ntmps33
    go_wp2_with fail
    refine (HN.out _ HB0.out).mono ?_
    rintro e w2 ⟨rfl, hB⟩
    have HB := hid' (bel_then HB0.out hB)
    clear hB
    go_wp2
    go_ret
    refine ⟨?_, HB.out⟩
    rw [← H2.out]
    first | rfl | go_simp
/-- so many polls, in rounds of so many -/
def rdC (P m : Nat) : List Value := (List.range m).flatMap fun i => [.bool false, .int .i64 ((i % P : Nat) : Int)]
theorem rdC_succ (P m : Nat) : rdC P (m + 1) = rdC P m ++ [.bool false, .int .i64 ((m % P : Nat) : Int)] := by
  unfold rdC; rw [List.range_succ, List.flatMap_append]; simp
theorem pollOne (j : Nat) : ∀ u ∈ [(.bool false : Value), .int .i64 (j : Int)], u.oneCell' = true := by
  intro u hu; simp at hu; rcases hu with h | h <;> rw [h] <;> rfl
/-- by how much the clock goes on -/
def tkS (s : Int) (c : Bool × Int) : Int := if c.1 = true ∧ 0 < c.2 then min s (9223372036854775807 - c.2) + c.2 else s
def tks (l : List (Bool × Int)) : Int := l.foldl tkS 0
def fCh (c : Bool × Int) : List Value := [.bool c.1, .int .i64 c.2]
theorem tkS_bd {s : Int} {c : Bool × Int} (h0 : 0 ≤ s) (h1 : s ≤ 9223372036854775807) (hc : I64 c.2) : 0 ≤ tkS s c ∧ tkS s c ≤ 9223372036854775807 := by
  unfold I64 at hc
  unfold tkS
  split <;> omega
theorem tks_snoc {l : List (Bool × Int)} {k : Nat} {c : Bool × Int} (h : l[k]? = some c) : tks (l.take (k + 1)) = tkS (tks (l.take k)) c := by
  unfold tks
  rw [List.take_add_one, h]
  simp
theorem tks_bd {l : List (Bool × Int)} (h : ∀ c ∈ l, I64 c.2) : ∀ k, 0 ≤ tks (l.take k) ∧ tks (l.take k) ≤ 9223372036854775807 := by
  intro k
  induction k with
  | zero => simp [tks]
  | succ k ih =>
    cases hk : l[k]? with
    | none => rw [List.take_of_length_le (by have := List.getElem?_eq_none_iff.1 hk; omega)]; rw [List.take_of_length_le (by have := List.getElem?_eq_none_iff.1 hk; omega)] at ih; exact ih
    | some c => rw [tks_snoc hk]; exact tkS_bd ih.1 ih.2 (h c (List.mem_of_getElem? hk))
theorem RdS.at2 {w : World} {A : Option Addr} {l : List (Bool × Int)} (h : RdS w A 2 fCh l) {k : Nat} (hk : k < l.length) :
    ∃ ad t n, A = some ad ∧ l[k]? = some (t, n) ∧ w.cell? (ad.add (k * 2)) = some (.bool t) ∧ w.cell? ⟨(ad.add (k * 2)).block, (ad.add (k * 2)).off + 1, none⟩ = some (.int .i64 n) := by
  obtain ⟨⟨t, n⟩, hx⟩ : ∃ x, l[k]? = some x := ⟨_, List.getElem?_eq_getElem hk⟩
  obtain ⟨ad, hA, hl, hc⟩ := h k (t, n) hx
  exact ⟨ad, t, n, hA, hx, hc 0 _ rfl, hc 1 _ rfl⟩
end Go.Proofs.YtockkjhciojgbaaGreatDoor
/- GenCheck -/
/- The checks of a rule (gen.Check, tidewaiterref13.Check), walked. No condition. (As in Gen; not to be imported beside it.) -/
namespace Go.Proofs.YtockkjhciojgbaaGreatDoor
set_option maxRecDepth 100000
set_option linter.unusedSimpArgs false
open Go.RowKit
set_option linter.unusedVariables false
set_option linter.unusedSimpArgs false

def ruleV (k b p n s : Int) : Value := .agg #[.int .i64 k, .int .i64 b, .int .i64 p, .int .i64 n, .int .i64 s]
def ruleC (k b p n s : Int) : Int :=
  if k = 0 then (if 0 ≤ b then 0 else 7)
  else if k = 1 then (if 0 ≤ s then (if s ≤ 1114111 then 0 else 7) else 7)
  else if k = 2 then (if 0 ≤ p then (if p ≤ 100 then (if 1 ≤ n then (if n ≤ 4096 then 0 else 7) else 7) else 7) else 7)
  else 3
set_option maxHeartbeats 4000000 in
theorem gen_Check (k b p n s : Int) (w : World) :
    Calls Tryz.prog 79 #[ruleV k b p n s] w fun e w' => e = .returned (.int .i64 (ruleC k b p n s)) ∧ Below w.heap.size w w' := by
  unfold ruleC ruleV
  have hb0 := bel_refl w
  by_cases k0 : k = 0
  · subst k0
    rw [if_pos rfl]
    split
    all_goals
      go_enter Tryz.func79, Tryz.ntmps79
      go_wp2
      all_goals first | (exfalso; omega) | skip
      all_goals
        go_ret
        exact ⟨rfl, (by repeat (first | assumption | apply bel_alloc | apply bel_drewN | apply bel_drew | exact bel_refl _))⟩
  rw [if_neg k0]
  by_cases k1 : k = 1
  · subst k1
    rw [if_pos rfl]
    clear k0
    repeat' split
    all_goals
      go_enter Tryz.func79, Tryz.ntmps79
      go_wp2
      all_goals first | (exfalso; omega) | skip
      all_goals
        go_ret
        exact ⟨rfl, (by repeat (first | assumption | apply bel_alloc | apply bel_drewN | apply bel_drew | exact bel_refl _))⟩
  rw [if_neg k1]
  by_cases k2 : k = 2
  · subst k2
    rw [if_pos rfl]
    clear k0 k1
    repeat' split
    all_goals
      go_enter Tryz.func79, Tryz.ntmps79
      go_wp2
      all_goals first | (exfalso; omega) | skip
      all_goals
        go_ret
        exact ⟨rfl, (by repeat (first | assumption | apply bel_alloc | apply bel_drewN | apply bel_drew | exact bel_refl _))⟩
  rw [if_neg k2]
  have e0 : (k == 0) = false := by rw [beq_eq_false_iff_ne]; exact k0
  have e1 : (k == 1) = false := by rw [beq_eq_false_iff_ne]; exact k1
  have e2 : (k == 2) = false := by rw [beq_eq_false_iff_ne]; exact k2
  clear k0 k1 k2
  go_enter Tryz.func79, Tryz.ntmps79
  go_wp2
  go_ret
  exact ⟨rfl, (by repeat (first | assumption | apply bel_alloc | apply bel_drewN | apply bel_drew | exact bel_refl _))⟩
end Go.Proofs.YtockkjhciojgbaaGreatDoor
/- Config -/
/- Rules in words (package config), walked. No condition but the tables and variables of Go's own library. -/
namespace Go.Proofs.YtockkjhciojgbaaGreatDoor
set_option maxRecDepth 100000
set_option linter.unusedSimpArgs false
open Go.RowKit
set_option linter.unusedVariables false
set_option linter.unusedSimpArgs false

/-- words: numbers behind the first one -/
def wordsL (l : List Int) : List UInt8 := l.flatMap fun n => 32 :: Lib.itoa n
def lnL (word : List UInt8) (l : List Int) : List UInt8 := word ++ wordsL l ++ [10]
theorem wordsL_snoc (l : List Int) (n : Int) : wordsL (l ++ [n]) = wordsL l ++ 32 :: Lib.itoa n := by unfold wordsL; simp
theorem wordsL_len {l : List Int} (h : ∀ n ∈ l, I64 n) : (wordsL l).length ≤ 22 * l.length := by
  induction l with
  | nil => simp [wordsL]
  | cons n l ih =>
    have h1 := itoa_len (h n (List.mem_cons_self ..))
    have h2 := ih (fun x hx => h x (List.mem_cons_of_mem _ hx))
    unfold wordsL at h2 ⊢
    simp only [List.flatMap_cons, List.length_append, List.length_cons]
    omega
set_option maxHeartbeats 4000000 in
theorem config_line (s : ByteArray) (A : Option Addr) (c : Nat) (l : List Int) (w : World) (hr : Rd w A (l.map iV)) (hI : ∀ n ∈ l, I64 n) (hl : l.length ≤ 100) (hs : s.size ≤ 100) (hP : PowT w) :
    Calls Tryz.prog 61 #[.string s, .slice A l.length c] w fun e w' => e = .returned (.string (strOf (lnL (bL s) l))) ∧ Below w.heap.size w w' := by
  have HR := hid' hr
  have HI := hid' hI
  have HP := hid' hP
  have HB0 := hid' (bel_refl w)
  have hsz := fun k => wordsL_len (l := l.take k) (fun n hn => hI n (List.mem_of_mem_take hn))
  have HSZ := hid' hsz
  have h0 : s = strOf (bL s ++ wordsL (l.take 0)) := by rw [List.take_zero]; exact bL_inj (by rw [bL_str]; simp [wordsL])
  have HS0 := hid' h0
  clear hr hI hP hsz h0
  go_enter Tryz.func61, Tryz.ntmps61
  go_wp2
  go_loopw [0, 6, 9] (fun v0 v6 v9 wr => ∃ k : Nat, k ≤ l.length ∧ v9 = .int .i64 k ∧ v0 = .string (strOf (bL s ++ wordsL (l.take k))) ∧ Below w.heap.size w wr) (fun _ _ v9 _ => l.length - (intOf v9).toNat)
  case atStart => exact ⟨0, Nat.zero_le _, rfl, by rw [← HS0.out], HB0.out⟩
  case round =>
    obtain ⟨k, hk, rfl, rfl, hL⟩ := hrel
    have HL := hid' hL
    have hlen := HSZ.out k
    rw [List.length_take] at hlen
    obtain ⟨p, hp⟩ : ∃ p, p = strOf (bL s ++ wordsL (l.take k)) := ⟨_, rfl⟩
    have hps : p.size ≤ 2400 := by
      rw [hp]
      show (bL s ++ wordsL (l.take k)).length ≤ _
      rw [List.length_append, bL_len]; omega
    rw [← hp]
    have HPP := hid' hp
    by_cases hlt : k < l.length
    · have hlti : (k : Int) < (l.length : Int) := by omega
      obtain ⟨ad, n, rfl, hx, hcell⟩ := (HR.out.below hL).at_ hlt
      change wr.cell? (ad.add k) = some (.int .i64 n) at hcell
      have hn := HI.out n (List.mem_of_getElem? hx)
      have hz := numT_size hn
      have HT := hid' (itoaW n wr hn (HP.out.below hL))
      have hnext : p ++ ((⟨#[32]⟩ : ByteArray) ++ numT n) = strOf (bL s ++ wordsL (l.take (k + 1))) := by
        rw [hp, List.take_add_one, hx, Option.toList_some, wordsL_snoc]
        unfold numT
        rw [show (⟨#[32]⟩ : ByteArray) = strOf [32] from rfl, strN_app, strN_app]
        simp
      have HNX := hid' hnext
      have h1 : 1 + (numT n).size ≤ 9223372036854775807 := by omega
      have h2 : p.size + (1 + (numT n).size) ≤ 9223372036854775807 := by omega
      have h3 : p.size + ((⟨#[32]⟩ : ByteArray) ++ numT n).size ≤ 9223372036854775807 := by rw [ByteArray.size_append]; exact h2
      clear hL hx hp hnext hlen hps
      generalize numT n = y at *
      go_wp2_with fail
      refine HT.out.mono ?_
      rintro e w2 ⟨rfl, hB2⟩
      go_wp2
      go_roundw
      case rel => exact ⟨k + 1, by omega, by go_num, by rw [← HNX.out], bel_then HL.out hB2⟩
      case measure => (simp only [intOf]; omega)
    · obtain rfl : k = l.length := by omega
      rw [List.take_length] at HPP
      have hend : p ++ (⟨#[10]⟩ : ByteArray) = strOf (lnL (bL s) l) := by
        rw [HPP.out, show (⟨#[10]⟩ : ByteArray) = strOf [10] from rfl, strN_app]; rfl
      have HE := hid' hend
      have h1 : p.size + 1 ≤ 9223372036854775807 := by omega
      clear hL hp hend
      go_wp2
      go_ret
      refine ⟨?_, HL.out⟩
      rw [← HE.out]
      first | rfl | go_simp
def namesV : Value := .agg #[.string ⟨#[98, 111, 117, 110, 100, 101, 100]⟩, .string ⟨#[109, 97, 114, 107, 101, 100]⟩, .string ⟨#[112, 101, 114, 99, 101, 110, 116]⟩]
theorem config_names (w : World) : Calls Tryz.prog 106 #[] w fun e w' => e = .returned namesV ∧ Below w.heap.size w w' := by
  have HK := hid' (Blk.new_ w 164 #[.string ⟨#[]⟩, .string ⟨#[]⟩, .string ⟨#[]⟩])
  have c0 := HK.out.frozen 0
  have c1 := HK.out.frozen 1
  have c2 := HK.out.frozen 2
  go_enter Tryz.func106, Tryz.ntmps106
  go_wp2
  refine bodyPost_ret (v := namesV) ?_ rfl ⟨rfl, ?_⟩
  · rw [results_cellC rfl]; unfold namesV; go_simp
  · exact bel_alloc (bel_refl w) _
end Go.Proofs.YtockkjhciojgbaaGreatDoor
/- ConfigB -/
/- Rules in words, both ways of saying it (config.Rule, tidewaiterref19.Rule, Only), walked. No condition but the tables and variables of Go's own library. -/
namespace Go.Proofs.YtockkjhciojgbaaGreatDoor
set_option maxRecDepth 100000
set_option linter.unusedSimpArgs false
open Go.RowKit
set_option linter.unusedVariables false
set_option linter.unusedSimpArgs false

abbrev Rl := Int × Int × Int × Int × Int
def rlI (r : Rl) : Prop := I64 r.1 ∧ I64 r.2.1 ∧ I64 r.2.2.1 ∧ I64 r.2.2.2.1 ∧ I64 r.2.2.2.2
def wBounded : List UInt8 := [98, 111, 117, 110, 100, 101, 100]
def wMarked : List UInt8 := [109, 97, 114, 107, 101, 100]
def wPercent : List UInt8 := [112, 101, 114, 99, 101, 110, 116]
def wSource : List UInt8 := [115, 111, 117, 114, 99, 101]
/-- a rule in words -/
def ruleL (k b p n s : Int) : List UInt8 :=
  if k = 0 then lnL wBounded [b] else if k = 1 then lnL wMarked [s] else if k = 2 then lnL wPercent [p, n] else []
def onlyB (k b p n s : Int) : Bool :=
  if k = 0 then s == 0 && p == 0 && n == 0 else if k = 1 then b == 0 && p == 0 && n == 0 else if k = 2 then b == 0 && s == 0 else false
theorem namesQ (w : World) : ∀ d os, Calls Tryz.prog 106 #[] (Go.Sort.grow (redrawn w d) os) fun e w'' => e = .returned (.agg #[.string ⟨#[98, 111, 117, 110, 100, 101, 100]⟩, .string ⟨#[109, 97, 114, 107, 101, 100]⟩, .string ⟨#[112, 101, 114, 99, 101, 110, 116]⟩]) ∧ ∃ p : Regrown, w'' = Go.Sort.grow (redrawn w p.d) p.os := fun d os => Calls.regrown_of (config_names _)
set_option maxHeartbeats 8000000 in
theorem config_Rule (k b p n s : Int) (w : World) (h : rlI (k, b, p, n, s)) (hP : PowT w) :
    Calls Tryz.prog 62 #[ruleV k b p n s] w fun e w' => e = .returned (.string (strOf (ruleL k b p n s))) ∧ Below w.heap.size w w' := by
  unfold ruleV
  have HP := hid' hP
  obtain ⟨hk, hb, hp, hn, hs⟩ := h
  simp only at hk hb hp hn hs
  have HI := hid' (And.intro hb (And.intro hp (And.intro hn hs)))
  have hkI := hk
  unfold I64 at hkI
  clear hb hp hn hs hP hk
  have HK := hid' (Blk.new_ w 24 #[.int .i64 k, .int .i64 b, .int .i64 p, .int .i64 n, .int .i64 s])
  have HL0 := hid' (bel_alloc (bel_refl w) (.cells #[.int .i64 k, .int .i64 b, .int .i64 p, .int .i64 n, .int .i64 s] 24))
  have HB0 := hid' (bel_refl w)
  by_cases k0 : k < 0
  · have hr : ruleL k b p n s = [] := by unfold ruleL; rw [if_neg (by omega), if_neg (by omega), if_neg (by omega)]
    rw [hr]
    clear hr
    go_enter Tryz.func62, Tryz.ntmps62
    go_wp2
    generalize hw0 : w.alloc (.cells _ 24) = w0 at *
    have c0 := HK.out.cell 0
    simp only [List.getElem?_toArray, List.getElem?_cons_zero] at c0
    have q0 := cell_regrown c0
    refine wp_region_quiet_below (by kernel_rfl) (by kernel_rfl) ?_
    repeat (quiet_step (exact namesQ _ _ _))
    refine wpQuiet_nil ?_
    intro _ hw'
    obtain ⟨⟨dq, osq⟩, hw''⟩ := hw'
    subst hw''
    have hBq := below_regrown w0 dq osq
    generalize Go.Sort.grow (redrawn w0 dq) osq = wq at *
    have HKq := hid' (HK.out.below hBq)
    have HLq := hid' (bel_then HL0.out hBq)
    clear c0 q0 hBq hw0
    go_wp2
    go_ret
    exact ⟨rfl, HLq.out⟩
  · have hk0 : 0 ≤ k := by omega
    by_cases k3 : 3 ≤ k
    · have hr : ruleL k b p n s = [] := by unfold ruleL; rw [if_neg (by omega), if_neg (by omega), if_neg (by omega)]
      rw [hr]
      clear hr
      go_enter Tryz.func62, Tryz.ntmps62
      go_wp2
      generalize hw0 : w.alloc (.cells _ 24) = w0 at *
      have c0 := HK.out.cell 0
      simp only [List.getElem?_toArray, List.getElem?_cons_zero] at c0
      have q0 := cell_regrown c0
      refine wp_region_quiet_below (by kernel_rfl) (by kernel_rfl) ?_
      repeat (quiet_step (exact namesQ _ _ _))
      refine wpQuiet_nil ?_
      intro _ hw'
      obtain ⟨⟨dq, osq⟩, hw''⟩ := hw'
      subst hw''
      have hBq := below_regrown w0 dq osq
      generalize Go.Sort.grow (redrawn w0 dq) osq = wq at *
      have HKq := hid' (HK.out.below hBq)
      have HLq := hid' (bel_then HL0.out hBq)
      clear c0 q0 hBq hw0
      go_wp2
      go_ret
      exact ⟨rfl, HLq.out⟩
    · have hk3 : k < 3 := by omega
      by_cases k1 : k = 1
      · subst k1
        have hr : ruleL 1 b p n s = lnL wMarked [s] := by unfold ruleL; rw [if_neg (by decide), if_pos rfl]
        rw [hr]
        clear hr
        go_enter Tryz.func62, Tryz.ntmps62
        go_wp2
        generalize hw0 : w.alloc (.cells _ 24) = w0 at *
        have c0 := HK.out.cell 0
        simp only [List.getElem?_toArray, List.getElem?_cons_zero] at c0
        have q0 := cell_regrown c0
        refine wp_region_quiet_below (by kernel_rfl) (by kernel_rfl) ?_
        repeat (quiet_step (exact namesQ _ _ _))
        refine wpQuiet_nil ?_
        intro _ hw'
        obtain ⟨⟨dq, osq⟩, hw''⟩ := hw'
        subst hw''
        have hBq := below_regrown w0 dq osq
        generalize Go.Sort.grow (redrawn w0 dq) osq = wq at *
        have HKq := hid' (HK.out.below hBq)
        have HLq := hid' (bel_then HL0.out hBq)
        clear c0 q0 hBq hw0
        go_wp2
        have hix : ∀ W, Sem.run Tryz.prog (Instr.index 164 (.agg #[.string ⟨#[98, 111, 117, 110, 100, 101, 100]⟩, .string ⟨#[109, 97, 114, 107, 101, 100]⟩, .string ⟨#[112, 101, 114, 99, 101, 110, 116]⟩]) (.int .i64 1)) W = .ok (.string ⟨#[109, 97, 114, 107, 101, 100]⟩) W := fun W => rfl
        have c0 : wq.cell? ⟨w.heap.size, 0, none⟩ = some (.int .i64 1) := by simpa using HKq.out.cell 0
        have q0 := cell_regrown c0
        refine wp_region_quiet_below (by kernel_rfl) (by kernel_rfl) ?_
        repeat (quiet_step (exact namesQ _ _ _))
        refine wpQuiet_nil ?_
        intro _ hw'
        obtain ⟨⟨dq, osq⟩, hw''⟩ := hw'
        subst hw''
        have hBp := below_regrown wq dq osq
        generalize Go.Sort.grow (redrawn wq dq) osq = wp at *
        have HKp := hid' (HKq.out.below hBp)
        have HLp := hid' (bel_then HLq.out hBp)
        clear q0 hBp c0
        have c0 : wp.cell? ⟨w.heap.size, 0, none⟩ = some (.int .i64 1) := by simpa using HKp.out.cell 0
        have c4 : wp.cell? ⟨w.heap.size, 4, none⟩ = some (.int .i64 s) := by simpa using HKp.out.cell 4
        have hba := bel_alloc (bel_refl wp) (.cells #[.int .i64 s] 3)
        have HX := hid' (config_line ⟨#[109, 97, 114, 107, 101, 100]⟩ (some ⟨wp.heap.size, 0, none⟩) 1 [s] _ ((Blk.new_ wp 3 #[.int .i64 s]).rd rfl) (by intro x hx; rw [List.mem_singleton] at hx; subst hx; exact HI.out.2.2.2) (by simp) (by decide) (HP.out.below (bel_then HLp.out hba)))
        have HLa := hid' (bel_then HLp.out hba)
        rw [show bL ⟨#[109, 97, 114, 107, 101, 100]⟩ = wMarked from rfl] at HX
        clear hba
        go_wp2_with fail
        refine HX.out.mono ?_
        rintro e w3 ⟨rfl, hB3⟩
        go_wp2
        go_ret
        exact ⟨rfl, bel_then HLa.out hB3⟩
      · by_cases k2 : k = 2
        · subst k2
          have hr : ruleL 2 b p n s = lnL wPercent [p, n] := by unfold ruleL; rw [if_neg (by decide), if_neg (by decide), if_pos rfl]
          rw [hr]
          clear hr
          go_enter Tryz.func62, Tryz.ntmps62
          go_wp2
          generalize hw0 : w.alloc (.cells _ 24) = w0 at *
          have c0 := HK.out.cell 0
          simp only [List.getElem?_toArray, List.getElem?_cons_zero] at c0
          have q0 := cell_regrown c0
          refine wp_region_quiet_below (by kernel_rfl) (by kernel_rfl) ?_
          repeat (quiet_step (exact namesQ _ _ _))
          refine wpQuiet_nil ?_
          intro _ hw'
          obtain ⟨⟨dq, osq⟩, hw''⟩ := hw'
          subst hw''
          have hBq := below_regrown w0 dq osq
          generalize Go.Sort.grow (redrawn w0 dq) osq = wq at *
          have HKq := hid' (HK.out.below hBq)
          have HLq := hid' (bel_then HL0.out hBq)
          clear c0 q0 hBq hw0
          go_wp2
          have hix : ∀ W, Sem.run Tryz.prog (Instr.index 164 (.agg #[.string ⟨#[98, 111, 117, 110, 100, 101, 100]⟩, .string ⟨#[109, 97, 114, 107, 101, 100]⟩, .string ⟨#[112, 101, 114, 99, 101, 110, 116]⟩]) (.int .i64 2)) W = .ok (.string ⟨#[112, 101, 114, 99, 101, 110, 116]⟩) W := fun W => rfl
          have c0 : wq.cell? ⟨w.heap.size, 0, none⟩ = some (.int .i64 2) := by simpa using HKq.out.cell 0
          have q0 := cell_regrown c0
          refine wp_region_quiet_below (by kernel_rfl) (by kernel_rfl) ?_
          repeat (quiet_step (exact namesQ _ _ _))
          refine wpQuiet_nil ?_
          intro _ hw'
          obtain ⟨⟨dq, osq⟩, hw''⟩ := hw'
          subst hw''
          have hBp := below_regrown wq dq osq
          generalize Go.Sort.grow (redrawn wq dq) osq = wp at *
          have HKp := hid' (HKq.out.below hBp)
          have HLp := hid' (bel_then HLq.out hBp)
          clear q0 hBp c0
          have c0 : wp.cell? ⟨w.heap.size, 0, none⟩ = some (.int .i64 2) := by simpa using HKp.out.cell 0
          have c2 : wp.cell? ⟨w.heap.size, 2, none⟩ = some (.int .i64 p) := by simpa using HKp.out.cell 2
          have c3 : wp.cell? ⟨w.heap.size, 3, none⟩ = some (.int .i64 n) := by simpa using HKp.out.cell 3
          have hba := bel_alloc (bel_refl wp) (.cells #[.int .i64 p, .int .i64 n] 3)
          have HX := hid' (config_line ⟨#[112, 101, 114, 99, 101, 110, 116]⟩ (some ⟨wp.heap.size, 0, none⟩) 2 [p, n] _ ((Blk.new_ wp 3 #[.int .i64 p, .int .i64 n]).rd rfl) (by intro x hx; simp at hx; rcases hx with rfl | rfl; exact HI.out.2.1; exact HI.out.2.2.1) (by simp) (by decide) (HP.out.below (bel_then HLp.out hba)))
          have HLa := hid' (bel_then HLp.out hba)
          rw [show bL ⟨#[112, 101, 114, 99, 101, 110, 116]⟩ = wPercent from rfl] at HX
          clear hba
          go_wp2_with fail
          refine HX.out.mono ?_
          rintro e w3 ⟨rfl, hB3⟩
          go_wp2
          go_ret
          exact ⟨rfl, bel_then HLa.out hB3⟩
        · obtain rfl : k = 0 := by omega
          have hr : ruleL 0 b p n s = lnL wBounded [b] := by unfold ruleL; rw [if_pos rfl]
          rw [hr]
          clear hr
          go_enter Tryz.func62, Tryz.ntmps62
          go_wp2
          generalize hw0 : w.alloc (.cells _ 24) = w0 at *
          have c0 := HK.out.cell 0
          simp only [List.getElem?_toArray, List.getElem?_cons_zero] at c0
          have q0 := cell_regrown c0
          refine wp_region_quiet_below (by kernel_rfl) (by kernel_rfl) ?_
          repeat (quiet_step (exact namesQ _ _ _))
          refine wpQuiet_nil ?_
          intro _ hw'
          obtain ⟨⟨dq, osq⟩, hw''⟩ := hw'
          subst hw''
          have hBq := below_regrown w0 dq osq
          generalize Go.Sort.grow (redrawn w0 dq) osq = wq at *
          have HKq := hid' (HK.out.below hBq)
          have HLq := hid' (bel_then HL0.out hBq)
          clear c0 q0 hBq hw0
          go_wp2
          have hix : ∀ W, Sem.run Tryz.prog (Instr.index 164 (.agg #[.string ⟨#[98, 111, 117, 110, 100, 101, 100]⟩, .string ⟨#[109, 97, 114, 107, 101, 100]⟩, .string ⟨#[112, 101, 114, 99, 101, 110, 116]⟩]) (.int .i64 0)) W = .ok (.string ⟨#[98, 111, 117, 110, 100, 101, 100]⟩) W := fun W => rfl
          have c0 : wq.cell? ⟨w.heap.size, 0, none⟩ = some (.int .i64 0) := by simpa using HKq.out.cell 0
          have q0 := cell_regrown c0
          refine wp_region_quiet_below (by kernel_rfl) (by kernel_rfl) ?_
          repeat (quiet_step (exact namesQ _ _ _))
          refine wpQuiet_nil ?_
          intro _ hw'
          obtain ⟨⟨dq, osq⟩, hw''⟩ := hw'
          subst hw''
          have hBp := below_regrown wq dq osq
          generalize Go.Sort.grow (redrawn wq dq) osq = wp at *
          have HKp := hid' (HKq.out.below hBp)
          have HLp := hid' (bel_then HLq.out hBp)
          clear q0 hBp c0
          have c0 : wp.cell? ⟨w.heap.size, 0, none⟩ = some (.int .i64 0) := by simpa using HKp.out.cell 0
          have c1 : wp.cell? ⟨w.heap.size, 1, none⟩ = some (.int .i64 b) := by simpa using HKp.out.cell 1
          have hba := bel_alloc (bel_refl wp) (.cells #[.int .i64 b] 3)
          have HX := hid' (config_line ⟨#[98, 111, 117, 110, 100, 101, 100]⟩ (some ⟨wp.heap.size, 0, none⟩) 1 [b] _ ((Blk.new_ wp 3 #[.int .i64 b]).rd rfl) (by intro x hx; rw [List.mem_singleton] at hx; subst hx; exact HI.out.1) (by simp) (by decide) (HP.out.below (bel_then HLp.out hba)))
          have HLa := hid' (bel_then HLp.out hba)
          rw [show bL ⟨#[98, 111, 117, 110, 100, 101, 100]⟩ = wBounded from rfl] at HX
          clear hba
          go_wp2_with fail
          refine HX.out.mono ?_
          rintro e w3 ⟨rfl, hB3⟩
          go_wp2
          go_ret
          exact ⟨rfl, bel_then HLa.out hB3⟩
theorem numQ (n : Int) (w : World) (h : I64 n) : ∀ d os, Calls Tryz.prog 16 #[.int .i64 n] (Go.Sort.grow (redrawn w d) os) fun e w'' => e = .returned (.string (numT n)) ∧ ∃ p : Regrown, w'' = Go.Sort.grow (redrawn w p.d) p.os := fun d os => Calls.regrown_of (ref19_Num n _ h)
theorem one_line (word : List UInt8) (n : Int) : strOf (word ++ [32]) ++ numT n ++ strOf [10] = strOf (lnL word [n]) := by
  unfold numT; rw [strN_app, strN_app]; unfold lnL wordsL; simp
theorem two_line (word : List UInt8) (n m : Int) : strOf (word ++ [32]) ++ numT n ++ strOf [32] ++ numT m ++ strOf [10] = strOf (lnL word [n, m]) := by
  unfold numT; rw [strN_app, strN_app, strN_app, strN_app]; unfold lnL wordsL; simp
set_option maxHeartbeats 8000000 in
theorem ref19_Rule (k b p n s : Int) (w : World) (h : rlI (k, b, p, n, s)) :
    Calls Tryz.prog 72 #[ruleV k b p n s] w fun e w' => e = .returned (.string (strOf (ruleL k b p n s))) ∧ Below w.heap.size w w' := by
  unfold ruleV
  obtain ⟨hk, hb, hp, hn, hs⟩ := h
  simp only at hk hb hp hn hs
  have HK := hid' (Blk.new_ w 24 #[.int .i64 k, .int .i64 b, .int .i64 p, .int .i64 n, .int .i64 s])
  have HL0 := hid' (bel_alloc (bel_refl w) (.cells #[.int .i64 k, .int .i64 b, .int .i64 p, .int .i64 n, .int .i64 s] 24))
  by_cases k0 : k = 0
  · subst k0
    have hr : strOf (ruleL 0 b p n s) = (⟨#[98, 111, 117, 110, 100, 101, 100, 32]⟩ : ByteArray) ++ numT b ++ ⟨#[10]⟩ := (one_line wBounded b).symm
    rw [hr]
    have HN := hid' (fun W => ref19_Num b W hb)
    have hz := numT_size hb
    have h1 : 8 + (numT b).size ≤ 9223372036854775807 := by omega
    have h2 : 8 + (numT b).size + 1 ≤ 9223372036854775807 := by omega
    clear hr hb hp hn hs hk
    generalize numT b = y at *
    go_enter Tryz.func72, Tryz.ntmps72
    go_wp2_with fail
    refine (HN.out _).mono ?_
    rintro e w2 ⟨rfl, hB2⟩
    go_wp2
    go_ret
    refine ⟨?_, bel_then HL0.out hB2⟩
    first | rfl | go_simp
  · by_cases k1 : k = 1
    · subst k1
      have hr : strOf (ruleL 1 b p n s) = (⟨#[109, 97, 114, 107, 101, 100, 32]⟩ : ByteArray) ++ numT s ++ ⟨#[10]⟩ := (one_line wMarked s).symm
      rw [hr]
      have HN := hid' (fun W => ref19_Num s W hs)
      have hz := numT_size hs
      have h1 : 7 + (numT s).size ≤ 9223372036854775807 := by omega
      have h2 : 7 + (numT s).size + 1 ≤ 9223372036854775807 := by omega
      clear hr hb hp hn hs hk
      generalize numT s = y at *
      go_enter Tryz.func72, Tryz.ntmps72
      go_wp2_with fail
      refine (HN.out _).mono ?_
      rintro e w2 ⟨rfl, hB2⟩
      go_wp2
      go_ret
      refine ⟨?_, bel_then HL0.out hB2⟩
      first | rfl | go_simp
    · by_cases k2 : k = 2
      · subst k2
        have hr : strOf (ruleL 2 b p n s) = (⟨#[112, 101, 114, 99, 101, 110, 116, 32]⟩ : ByteArray) ++ numT p ++ ⟨#[32]⟩ ++ numT n ++ ⟨#[10]⟩ := (two_line wPercent p n).symm
        rw [hr]
        have HN := hid' (fun W => numQ p W hp)
        have HM := hid' (fun W => numQ n W hn)
        have hz := numT_size hp
        have hz2 := numT_size hn
        have h1 : ¬ 9223372036854775807 < 8 + (numT p).size := by omega
        have h2 : ¬ 9223372036854775807 < 8 + (numT p).size + 1 := by omega
        have h3 : ¬ 9223372036854775807 < 8 + (numT p).size + 1 + (numT n).size := by omega
        have h4 : ¬ 9223372036854775807 < 8 + (numT p).size + 1 + (numT n).size + 1 := by omega
        clear hr hb hp hn hs hk
        generalize numT p = y at *
        generalize numT n = z at *
        go_enter Tryz.func72, Tryz.ntmps72
        go_wp2
        generalize hw0 : w.alloc (.cells #[.int .i64 2, .int .i64 b, .int .i64 p, .int .i64 n, .int .i64 s] 24) = w0 at *
        have c2 : w0.cell? ⟨w.heap.size, 2, none⟩ = some (.int .i64 p) := by simpa using HK.out.cell 2
        have c3 : w0.cell? ⟨w.heap.size, 3, none⟩ = some (.int .i64 n) := by simpa using HK.out.cell 3
        have q2 := cell_regrown c2
        have q3 := cell_regrown c3
        refine wp_region_quiet_below (by kernel_rfl) (by kernel_rfl) ?_
        repeat (quiet_step (first | with_reducible exact HN.out _ _ _ | with_reducible exact HM.out _ _ _))
        refine wpQuiet_nil ?_
        intro _ hw'
        obtain ⟨⟨dq, osq⟩, hw''⟩ := hw'
        subst hw''
        have hBq := below_regrown w0 dq osq
        generalize Go.Sort.grow (redrawn w0 dq) osq = wq at *
        go_wp2
        go_ret
        refine ⟨?_, bel_then HL0.out hBq⟩
        first | rfl | go_simp
      · have hr : ruleL k b p n s = [] := by unfold ruleL; rw [if_neg k0, if_neg k1, if_neg k2]
        rw [hr]
        clear hr
        go_enter Tryz.func72, Tryz.ntmps72
        go_wp2
        go_ret
        exact ⟨rfl, HL0.out⟩
end Go.Proofs.YtockkjhciojgbaaGreatDoor
/- ConfigC -/
/- Configurations: their checks (config.Check, tidewaiterref19.Check), what a rule goes by (Only), sameness (Same), walked. No condition. -/
namespace Go.Proofs.YtockkjhciojgbaaGreatDoor
set_option maxRecDepth 100000
set_option linter.unusedSimpArgs false
open Go.RowKit
set_option linter.unusedVariables false
set_option linter.unusedSimpArgs false

def fRl (r : Rl) : List Value := [.int .i64 r.1, .int .i64 r.2.1, .int .i64 r.2.2.1, .int .i64 r.2.2.2.1, .int .i64 r.2.2.2.2]
def rlC (r : Rl) : Int := ruleC r.1 r.2.1 r.2.2.1 r.2.2.2.1 r.2.2.2.2
def firstErr : List Rl → Int
  | [] => 0
  | r :: l => if rlC r = 0 then firstErr l else rlC r
theorem firstErr_at : ∀ {l : List Rl} {k : Nat} {r : Rl}, (∀ j x, j < k → l[j]? = some x → rlC x = 0) → l[k]? = some r → rlC r ≠ 0 → firstErr l = rlC r
  | [], k, r, _, h, _ => by simp at h
  | x :: l, 0, r, _, h, hr => by
    simp at h; subst h
    unfold firstErr; rw [if_neg hr]
  | x :: l, k + 1, r, h0, h, hr => by
    unfold firstErr
    rw [if_pos (h0 0 x (by omega) rfl)]
    exact firstErr_at (k := k) (fun j y hj hy => h0 (j + 1) y (by omega) (by simpa using hy)) (by simpa using h) hr
theorem firstErr_none : ∀ {l : List Rl}, (∀ x ∈ l, rlC x = 0) → firstErr l = 0
  | [], _ => rfl
  | x :: l, h => by
    unfold firstErr
    rw [if_pos (h x (List.mem_cons_self ..))]
    exact firstErr_none (fun y hy => h y (List.mem_cons_of_mem _ hy))
theorem mem_of_all {l : List Rl} {P : Rl → Prop} (h : ∀ j x, j < l.length → l[j]? = some x → P x) : ∀ x ∈ l, P x := by
  intro x hx
  obtain ⟨j, hj, e⟩ := List.mem_iff_getElem.1 hx
  exact h j x hj (by rw [List.getElem?_eq_getElem hj, e])
/-- whether there can be such a source -/
def cfgC (l : List Rl) (t d : Int) : Int := if l.length < 1 ∨ 4096 < l.length then 6 else if t < 1 ∨ d < 0 then 7 else firstErr l
theorem RdS.at5 {w : World} {A : Option Addr} {l : List Rl} (h : RdS w A 5 fRl l) {k : Nat} (hk : k < l.length) :
    ∃ ad a b c d e, A = some ad ∧ l[k]? = some (a, b, c, d, e) ∧ w.cell? (ad.add (k * 5)) = some (.int .i64 a) ∧ w.cell? ⟨(ad.add (k * 5)).block, (ad.add (k * 5)).off + 1, none⟩ = some (.int .i64 b) ∧
      w.cell? ⟨(ad.add (k * 5)).block, (ad.add (k * 5)).off + 2, none⟩ = some (.int .i64 c) ∧ w.cell? ⟨(ad.add (k * 5)).block, (ad.add (k * 5)).off + 3, none⟩ = some (.int .i64 d) ∧ w.cell? ⟨(ad.add (k * 5)).block, (ad.add (k * 5)).off + 4, none⟩ = some (.int .i64 e) := by
  obtain ⟨⟨a, b, c, d, e⟩, hx⟩ : ∃ x, l[k]? = some x := ⟨_, List.getElem?_eq_getElem hk⟩
  obtain ⟨ad, hA, hl, hc⟩ := h k _ hx
  exact ⟨ad, a, b, c, d, e, hA, hx, hc 0 _ rfl, hc 1 _ rfl, hc 2 _ rfl, hc 3 _ rfl, hc 4 _ rfl⟩
set_option maxHeartbeats 8000000 in
theorem config_Check (A : Option Addr) (cp : Nat) (l : List Rl) (t d : Int) (w : World) (hr : RdS w A 5 fRl l) (hl : l.length ≤ maxLen) :
    Calls Tryz.prog 41 #[.agg #[.slice A l.length cp, .int .i64 t, .int .i64 d]] w fun e w' => e = .returned (.int .i64 (cfgC l t d)) ∧ Below w.heap.size w w' := by
  have hlm : l.length ≤ 9223372036854775807 := by unfold maxLen at hl; omega
  have HK := hid' (Blk.new_ w 27 #[.slice A l.length cp, .int .i64 t, .int .i64 d])
  have HL0 := hid' (bel_alloc (bel_refl w) (.cells #[.slice A l.length cp, .int .i64 t, .int .i64 d] 27))
  have HR := hid' hr
  clear hr hl
  by_cases h0 : l.length = 0
  · have hc : cfgC l t d = 6 := by unfold cfgC; rw [if_pos (by omega)]
    rw [hc]
    have hz : ((l.length : Int) == 0) = true := by rw [h0]; rfl
    clear hc h0
    go_enter Tryz.func41, Tryz.ntmps41
    go_wp2
    go_ret
    exact ⟨rfl, HL0.out⟩
  · have hz : ((l.length : Int) == 0) = false := by rw [beq_eq_false_iff_ne]; omega
    by_cases h1 : 4096 < l.length
    · have hc : cfgC l t d = 6 := by unfold cfgC; rw [if_pos (by omega)]
      rw [hc]
      have hz1 : (4096 : Int) < (l.length : Int) := by omega
      clear hc
      go_enter Tryz.func41, Tryz.ntmps41
      go_wp2
      go_ret
      exact ⟨rfl, HL0.out⟩
    · have hz1 : (l.length : Int) ≤ 4096 := by omega
      by_cases h2 : t < 1
      · have hc : cfgC l t d = 7 := by unfold cfgC; rw [if_neg (by omega), if_pos (.inl h2)]
        rw [hc]
        clear hc
        go_enter Tryz.func41, Tryz.ntmps41
        go_wp2
        go_ret
        exact ⟨rfl, HL0.out⟩
      · have h2' : 1 ≤ t := by omega
        by_cases h3 : d < 0
        · have hc : cfgC l t d = 7 := by unfold cfgC; rw [if_neg (by omega), if_pos (.inr h3)]
          rw [hc]
          clear hc
          go_enter Tryz.func41, Tryz.ntmps41
          go_wp2
          go_ret
          exact ⟨rfl, HL0.out⟩
        · have h3' : 0 ≤ d := by omega
          have hc : cfgC l t d = firstErr l := by unfold cfgC; rw [if_neg (by omega), if_neg (by omega)]
          rw [hc]
          clear hc
          go_enter Tryz.func41, Tryz.ntmps41
          go_wp2
          go_loopw [4, 5, 29] (fun v4 v5 v29 wr => ∃ k : Nat, k ≤ l.length ∧ v29 = .int .i64 k ∧ (∀ j x, j < k → l[j]? = some x → rlC x = 0) ∧ Below w.heap.size w wr) (fun _ _ v29 _ => l.length - (intOf v29).toNat)
          case atStart => exact ⟨0, Nat.zero_le _, rfl, fun j x hj => by omega, HL0.out⟩
          case round =>
            obtain ⟨k, hk, rfl, hok, hL⟩ := hrel
            have HOK := hid' hok
            have HL := hid' hL
            by_cases hlt : k < l.length
            · have hlti : (k : Int) < (l.length : Int) := by omega
              obtain ⟨ad, a, b, p, n, s, rfl, hx, c0, c1, c2, c3, c4⟩ := (HR.out.below hL).at5 hlt
              have HX := hid' hx
              have HLa := hid' (bel_alloc HL.out (.cells #[.int .i64 a, .int .i64 b, .int .i64 p, .int .i64 n, .int .i64 s] 24))
              have HC := hid' (fun W => gen_Check a b p n s W)
              unfold ruleV at HC
              obtain ⟨e, he⟩ : ∃ e, e = ruleC a b p n s := ⟨_, rfl⟩
              have HEE := hid' (show rlC (a, b, p, n, s) = e from he.symm)
              rw [← he] at HC
              clear he hx hok hL
              by_cases he0 : e = 0
              · subst he0
                go_wp2_with fail
                refine (HC.out _).mono ?_
                rintro e' w2 ⟨rfl, hB2⟩
                go_wp2
                go_roundw
                case rel => exact ⟨k + 1, by omega, by go_num, fun j x hj hx => by
                  by_cases hjk : j = k
                  · subst hjk; rw [HX.out] at hx; rw [← Option.some.inj hx]; exact HEE.out
                  · exact HOK.out j x (by omega) hx, bel_then HLa.out hB2⟩
                case measure => (simp only [intOf]; omega)
              · have hez : (e == 0) = false := by rw [beq_eq_false_iff_ne]; exact he0
                have hfe := firstErr_at HOK.out HX.out (by rw [HEE.out]; exact he0)
                rw [HEE.out] at hfe
                have HF := hid' hfe
                clear hfe he0
                go_wp2_with fail
                refine (HC.out _).mono ?_
                rintro e' w2 ⟨rfl, hB2⟩
                go_wp2
                go_ret
                exact ⟨by rw [HF.out]; rfl, bel_then HLa.out hB2⟩
            · obtain rfl : k = l.length := by omega
              have hfe := firstErr_none (mem_of_all hok)
              have HF := hid' hfe
              clear hfe hok hL
              go_wp2
              go_ret
              exact ⟨by rw [HF.out]; rfl, HL.out⟩
set_option maxHeartbeats 4000000 in
theorem ref19_Only (k b p n s : Int) (w : World) :
    Calls Tryz.prog 29 #[ruleV k b p n s] w fun e w' => e = .returned (.bool (onlyB k b p n s)) ∧ Below w.heap.size w w' := by
  unfold ruleV
  have hb0 := bel_refl w
  by_cases k0 : k = 0
  · subst k0
    have hr : onlyB 0 b p n s = ((s == 0) && (p == 0) && (n == 0)) := by unfold onlyB; rw [if_pos rfl]
    rw [hr]
    clear hr
    cases h1 : (s == 0) <;> cases h2 : (p == 0) <;> cases h3 : (n == 0)
    all_goals
      go_enter Tryz.func29, Tryz.ntmps29
      go_wp2
      go_ret
      exact ⟨rfl, bel_alloc hb0 _⟩
  · by_cases k1 : k = 1
    · subst k1
      have hr : onlyB 1 b p n s = ((b == 0) && (p == 0) && (n == 0)) := by unfold onlyB; rw [if_neg (by decide), if_pos rfl]
      rw [hr]
      clear hr
      cases h1 : (b == 0) <;> cases h2 : (p == 0) <;> cases h3 : (n == 0)
      all_goals
        go_enter Tryz.func29, Tryz.ntmps29
        go_wp2
        go_ret
        exact ⟨rfl, bel_alloc hb0 _⟩
    · by_cases k2 : k = 2
      · subst k2
        have hr : onlyB 2 b p n s = ((b == 0) && (s == 0)) := by unfold onlyB; rw [if_neg (by decide), if_neg (by decide), if_pos rfl]
        rw [hr]
        clear hr
        cases h1 : (b == 0) <;> cases h2 : (s == 0)
        all_goals
          go_enter Tryz.func29, Tryz.ntmps29
          go_wp2
          go_ret
          exact ⟨rfl, bel_alloc hb0 _⟩
      · have hr : onlyB k b p n s = false := by unfold onlyB; rw [if_neg k0, if_neg k1, if_neg k2]
        rw [hr]
        clear hr
        go_enter Tryz.func29, Tryz.ntmps29
        go_wp2
        go_ret
        exact ⟨rfl, bel_alloc hb0 _⟩
end Go.Proofs.YtockkjhciojgbaaGreatDoor
/- ConfigPure -/
/- Configurations in words, and back: the plain law. No program. -/
namespace Go.Proofs.YtockkjhciojgbaaGreatDoor
set_option maxRecDepth 100000
set_option linter.unusedSimpArgs false
set_option linter.unusedVariables false
set_option linter.unusedSimpArgs false

/-- a text in parts, at each of these signs -/
def spl (c : UInt8) : List UInt8 → List (List UInt8)
  | [] => [[]]
  | x :: l => if x = c then [] :: spl c l else match spl c l with | [] => [[x]] | h :: t => (x :: h) :: t
theorem spl_ne (c : UInt8) : ∀ l, spl c l ≠ []
  | [] => by simp [spl]
  | x :: l => by
    unfold spl
    split
    · simp
    · split <;> simp
theorem spl_no {c : UInt8} : ∀ {l : List UInt8}, c ∉ l → spl c l = [l]
  | [], _ => rfl
  | x :: l, h => by
    have hx : ¬ x = c := fun e => h (e ▸ List.mem_cons_self ..)
    have hm : c ∉ l := fun e => h (List.mem_cons_of_mem _ e)
    unfold spl
    rw [if_neg hx, spl_no hm]
theorem spl_cut {c : UInt8} {a : List UInt8} (b : List UInt8) (h : c ∉ a) : spl c (a ++ c :: b) = a :: spl c b := by
  induction a with
  | nil => simp [spl]
  | cons x a ih =>
    have hx : ¬ x = c := fun e => h (e ▸ List.mem_cons_self ..)
    have hm : c ∉ a := fun e => h (List.mem_cons_of_mem _ e)
    rw [List.cons_append]
    conv => lhs; unfold spl
    rw [if_neg hx, ih hm]
def joinC (c : UInt8) (t : List (List UInt8)) : List UInt8 := t.flatMap fun x => c :: x
theorem spl_join {c : UInt8} : ∀ {l h : List UInt8} {t : List (List UInt8)}, spl c l = h :: t → l = h ++ joinC c t
  | [], h, t, e => by simp [spl] at e; obtain ⟨rfl, rfl⟩ := e; rfl
  | x :: l, h, t, e => by
    unfold spl at e
    split at e
    · rename_i hx
      simp only [List.cons.injEq] at e
      obtain ⟨rfl, rfl⟩ := e
      cases hs : spl c l with
      | nil => exact absurd hs (spl_ne c l)
      | cons h2 t2 =>
        have := spl_join hs
        unfold joinC at this ⊢
        rw [hx, List.flatMap_cons, List.nil_append, List.cons_append, ← this]
    · split at e
      · rename_i hs; exact absurd hs (spl_ne c l)
      · rename_i h2 t2 hs
        simp only [List.cons.injEq] at e
        obtain ⟨rfl, rfl⟩ := e
        rw [List.cons_append, ← spl_join hs]
theorem join_spl {c : UInt8} : ∀ {t : List (List UInt8)} {h : List UInt8}, c ∉ h → (∀ x ∈ t, c ∉ x) → spl c (h ++ joinC c t) = h :: t
  | [], h, hh, _ => by unfold joinC; simp; exact spl_no hh
  | x :: t, h, hh, ht => by
    unfold joinC
    rw [List.flatMap_cons, List.cons_append, spl_cut _ hh]
    congr 1
    exact join_spl (ht x (List.mem_cons_self ..)) (fun y hy => ht y (List.mem_cons_of_mem _ hy))
theorem splitK_spl (c : UInt8) : ∀ (n : Nat) (l : List UInt8), l.length ≤ n → Lib.splitK [c] 0 (l.count c) l = spl c l := by
  intro n
  induction n with
  | zero =>
    intro l hl
    obtain rfl : l = [] := List.eq_nil_of_length_eq_zero (by omega)
    rfl
  | succ n ih =>
    intro l hl
    by_cases hm : c ∈ l
    · obtain ⟨h1, h2⟩ := cutS_yes c l hm
      generalize hA : (cutS c l).1 = a at *
      generalize hB : (cutS c l).2.1 = b at *
      have hix : Lib.index l [c] = (a.length : Int) := by rw [index_S, if_pos hm, hA]
      have hcnt : l.count c = b.count c + 1 := by
        rw [h1, List.count_append, List.count_cons_self, List.count_eq_zero_of_not_mem h2]; omega
      have hbl : b.length ≤ n := by
        have := congrArg List.length h1
        rw [List.length_append, List.length_cons] at this
        omega
      rw [hcnt]
      unfold Lib.splitK
      rw [hix, if_neg (by rw [beq_iff_eq]; omega)]
      have e1 : l.take (((a.length : Int)).toNat + 0) = a := by rw [Int.toNat_natCast, Nat.add_zero, h1]; exact List.take_left
      have e2 : l.drop (((a.length : Int)).toNat + ([c] : List UInt8).length) = b := by
        rw [Int.toNat_natCast, h1, show a.length + ([c] : List UInt8).length = (a ++ [c]).length by simp, show a ++ c :: b = (a ++ [c]) ++ b by simp]
        exact List.drop_left
      rw [e1, e2, ih b hbl]
      rw [h1, spl_cut _ h2]
    · rw [List.count_eq_zero_of_not_mem hm, spl_no hm]; rfl
theorem splitB_spl (c : UInt8) (s : ByteArray) : (Lib.splitB ⟨#[c]⟩ 0 (Lib.countB s ⟨#[c]⟩) s).map bL = spl c (bL s) := by
  have h1 := Lib.splitB_data ⟨#[c]⟩ 0 (Lib.countB s ⟨#[c]⟩) s
  have h2 : Lib.countB s ⟨#[c]⟩ = (bL s).count c := Lib.count_one c (bL s)
  rw [h2] at h1 ⊢
  exact h1.trans (splitK_spl c _ (bL s) (Nat.le_refl _))
theorem spl_len (c : UInt8) : ∀ l : List UInt8, (spl c l).length ≤ l.length + 1
  | [] => by simp [spl]
  | x :: l => by
    have := spl_len c l
    unfold spl
    split
    · simp; omega
    · split
      · simp
      · rename_i hs; rw [hs] at this; simp at this ⊢; omega
theorem spl_mem_len {c : UInt8} : ∀ {l : List UInt8}, ∀ x ∈ spl c l, x.length ≤ l.length
  | [], x, h => by simp [spl] at h; subst h; simp
  | y :: l, x, h => by
    unfold spl at h
    split at h
    · rcases List.mem_cons.1 h with rfl | h
      · simp
      · have := spl_mem_len x h; simp; omega
    · split at h
      · simp at h; subst h; simp
      · rename_i h2 t2 hs
        rcases List.mem_cons.1 h with rfl | h
        · have := spl_mem_len (c := c) (l := l) h2 (by rw [hs]; exact List.mem_cons_self ..); simp; omega
        · have := spl_mem_len (c := c) (l := l) x (by rw [hs]; exact List.mem_cons_of_mem _ h); simp; omega
theorem spl_no_mem {c : UInt8} : ∀ {l : List UInt8}, ∀ x ∈ spl c l, c ∉ x
  | [], x, h => by simp [spl] at h; subst h; simp
  | y :: l, x, h => by
    unfold spl at h
    split at h
    · rcases List.mem_cons.1 h with rfl | h
      · simp
      · exact spl_no_mem x h
    · rename_i hy
      split at h
      · rename_i hs; exact absurd hs (spl_ne c l)
      · rename_i h2 t2 hs
        rcases List.mem_cons.1 h with rfl | h
        · have := spl_no_mem (c := c) (l := l) h2 (by rw [hs]; exact List.mem_cons_self ..)
          simp [this]; exact fun e => hy e.symm
        · exact spl_no_mem (c := c) (l := l) x (by rw [hs]; exact List.mem_cons_of_mem _ h)
end Go.Proofs.YtockkjhciojgbaaGreatDoor
/- ConfigPureB -/
/- Rules in words, and back: the plain law. No program. -/
namespace Go.Proofs.YtockkjhciojgbaaGreatDoor
set_option maxRecDepth 100000
set_option linter.unusedSimpArgs false
set_option linter.unusedVariables false
set_option linter.unusedSimpArgs false

def wOk (x : List UInt8) : Bool := (rdN x).isSome
def wV (x : List UInt8) : Int := (rdN x).getD 0
theorem wOk_num {x : List UInt8} (h : wOk x = true) : Lib.itoa (wV x) = x ∧ I64 (wV x) := by
  unfold wOk at h
  obtain ⟨n, hn⟩ := Option.isSome_iff_exists.1 h
  have hv : wV x = n := by unfold wV; rw [hn]; rfl
  rw [hv]; exact rdN_some hn
theorem wV_itoa {n : Int} (h : I64 n) : wV (Lib.itoa n) = n ∧ wOk (Lib.itoa n) = true := by
  unfold wV wOk; rw [rdN_itoa h]; exact ⟨rfl, rfl⟩
theorem words_join {t : List (List UInt8)} (h : t.all wOk = true) : joinC 32 t = wordsL (t.map wV) := by
  induction t with
  | nil => rfl
  | cons x t ih =>
    rw [List.all_cons, Bool.and_eq_true] at h
    unfold joinC wordsL at ih ⊢
    rw [List.map_cons, List.flatMap_cons, List.flatMap_cons, ih h.2, (wOk_num h.1).1]
theorem join_words (l : List Int) : wordsL l = joinC 32 (l.map Lib.itoa) := by
  unfold wordsL joinC; rw [List.flatMap_map]
theorem itoa_no (n : Int) (c : UInt8) (h : c.toNat < 45) : c ∉ Lib.itoa n := fun hm => by
  have := itoa_mem n c hm; omega
theorem words_ok {l : List Int} (h : ∀ n ∈ l, I64 n) : (l.map Lib.itoa).all wOk = true ∧ (l.map Lib.itoa).map wV = l := by
  induction l with
  | nil => exact ⟨rfl, rfl⟩
  | cons n l ih =>
    obtain ⟨h1, h2⟩ := ih (fun x hx => h x (List.mem_cons_of_mem _ hx))
    have h3 := wV_itoa (h n (List.mem_cons_self ..))
    simp only [List.map_cons, List.all_cons, h3.2, h1, Bool.and_self, h3.1, h2, and_self]
theorem spl_words {w : List UInt8} (hw : (32 : UInt8) ∉ w) (l : List Int) : spl 32 (w ++ wordsL l) = w :: l.map Lib.itoa := by
  rw [join_words]
  exact join_spl hw (fun x hx => by
    obtain ⟨n, _, rfl⟩ := List.mem_map.1 hx
    exact itoa_no n 32 (by decide))
def ruleN (h : List UInt8) (l : List Int) : Option Rl :=
  if h = wBounded ∧ l.length = 1 then some (0, l.getD 0 0, 0, 0, 0)
  else if h = wMarked ∧ l.length = 1 then some (1, 0, 0, 0, l.getD 0 0)
  else if h = wPercent ∧ l.length = 2 then some (2, 0, l.getD 0 0, l.getD 1 0, 0)
  else none
/-- the rule of a line -/
def ruleP (l : List UInt8) : Option Rl :=
  match spl 32 l with
  | [] => none
  | h :: t => if t.all wOk = true then ruleN h (t.map wV) else none
theorem len1 {α : Type} {l : List α} (h : l.length = 1) : ∃ a, l = [a] := by
  match l, h with
  | [a], _ => exact ⟨a, rfl⟩
theorem len2 {α : Type} {l : List α} (h : l.length = 2) : ∃ a b, l = [a, b] := by
  match l, h with
  | [a, b], _ => exact ⟨a, b, rfl⟩
def rlL (r : Rl) : List UInt8 := ruleL r.1 r.2.1 r.2.2.1 r.2.2.2.1 r.2.2.2.2
def rlO (r : Rl) : Bool := onlyB r.1 r.2.1 r.2.2.1 r.2.2.2.1 r.2.2.2.2
theorem I64_0 : I64 0 := by unfold I64; decide
theorem ruleN_some {h : List UInt8} {l : List Int} {r : Rl} (hI : ∀ n ∈ l, I64 n) (e : ruleN h l = some r) : rlL r = lnL h l ∧ rlO r = true ∧ rlI r := by
  unfold ruleN at e
  split at e
  · rename_i hh
    obtain ⟨a, rfl⟩ := len1 hh.2
    simp only [Option.some.injEq] at e
    subst e
    refine ⟨?_, rfl, ⟨by show I64 _; simp only; unfold I64; decide, hI a (by simp), I64_0, I64_0, I64_0⟩⟩
    rw [hh.1]; rfl
  · split at e
    · rename_i hh
      obtain ⟨a, rfl⟩ := len1 hh.2
      simp only [Option.some.injEq] at e
      subst e
      refine ⟨?_, rfl, ⟨by show I64 _; simp only; unfold I64; decide, I64_0, I64_0, I64_0, hI a (by simp)⟩⟩
      rw [hh.1]; rfl
    · split at e
      · rename_i hh
        obtain ⟨a, b, rfl⟩ := len2 hh.2
        simp only [Option.some.injEq] at e
        subst e
        refine ⟨?_, rfl, ⟨by show I64 _; simp only; unfold I64; decide, I64_0, hI a (by simp), hI b (by simp), I64_0⟩⟩
        rw [hh.1]; rfl
      · cases e
theorem ruleP_some {l : List UInt8} {r : Rl} (e : ruleP l = some r) : rlL r = l ++ [10] ∧ rlO r = true ∧ rlI r := by
  unfold ruleP at e
  split at e
  · cases e
  · rename_i h t hs
    split at e
    · rename_i hok
      have hI : ∀ n ∈ t.map wV, I64 n := by
        intro n hn
        obtain ⟨x, hx, rfl⟩ := List.mem_map.1 hn
        exact (wOk_num (List.all_eq_true.1 hok x hx)).2
      obtain ⟨h1, h2, h3⟩ := ruleN_some hI e
      refine ⟨?_, h2, h3⟩
      rw [h1, spl_join hs, words_join hok]
      rfl
    · cases e
theorem ruleP_words {w : List UInt8} (hw : (32 : UInt8) ∉ w) {l : List Int} (hI : ∀ n ∈ l, I64 n) : ruleP (w ++ wordsL l) = ruleN w l := by
  unfold ruleP
  rw [spl_words hw]
  simp only
  rw [if_pos (words_ok hI).1, (words_ok hI).2]
theorem words_no10 {w : List UInt8} (hw : (10 : UInt8) ∉ w) (l : List Int) : (10 : UInt8) ∉ w ++ wordsL l := by
  intro h
  rcases List.mem_append.1 h with h | h
  · exact hw h
  · unfold wordsL at h
    obtain ⟨n, _, hn⟩ := List.mem_flatMap.1 h
    rcases List.mem_cons.1 hn with h | h
    · exact absurd h (by decide)
    · exact itoa_no n 10 (by decide) h
/-- a rule that can be told is read again -/
theorem ruleP_back {r : Rl} (h : rlI r) (ho : rlO r = true) : ∃ l, rlL r = l ++ [10] ∧ (10 : UInt8) ∉ l ∧ ruleP l = some r := by
  obtain ⟨k, b, p, n, s⟩ := r
  unfold rlO at ho
  unfold onlyB at ho
  simp only at ho
  obtain ⟨hk, hb, hp, hn, hs⟩ := h
  simp only at hk hb hp hn hs
  unfold rlL ruleL
  simp only
  split at ho
  · rename_i k0
    simp only [Bool.and_eq_true, beq_iff_eq] at ho
    obtain ⟨⟨h1, h2⟩, h3⟩ := ho
    refine ⟨wBounded ++ wordsL [b], by rw [if_pos k0]; rfl, words_no10 (by decide) _, ?_⟩
    rw [ruleP_words (by decide) (by intro x hx; rw [List.mem_singleton] at hx; subst hx; exact hb), k0, h1, h2, h3]
    rfl
  · rename_i k0
    split at ho
    · rename_i k1
      simp only [Bool.and_eq_true, beq_iff_eq] at ho
      obtain ⟨⟨h1, h2⟩, h3⟩ := ho
      refine ⟨wMarked ++ wordsL [s], by rw [if_neg k0, if_pos k1]; rfl, words_no10 (by decide) _, ?_⟩
      rw [ruleP_words (by decide) (by intro x hx; rw [List.mem_singleton] at hx; subst hx; exact hs), k1, h1, h2, h3]
      rfl
    · rename_i k1
      split at ho
      · rename_i k2
        simp only [Bool.and_eq_true, beq_iff_eq] at ho
        obtain ⟨h1, h2⟩ := ho
        refine ⟨wPercent ++ wordsL [p, n], by rw [if_neg k0, if_neg k1, if_pos k2]; rfl, words_no10 (by decide) _, ?_⟩
        rw [ruleP_words (by decide) (by intro x hx; simp at hx; rcases hx with rfl | rfl; exact hp; exact hn), k2, h1, h2]
        rfl
      · cases ho
/-- the first line -/
def headP (l : List UInt8) : Option (Int × Int) :=
  match spl 32 l with
  | [] => none
  | h :: t => if t.all wOk = true then (if h = wSource ∧ t.length = 2 then some ((t.map wV).getD 0 0, (t.map wV).getD 1 0) else none) else none
theorem headP_some {l : List UInt8} {a b : Int} (e : headP l = some (a, b)) : lnL wSource [a, b] = l ++ [10] ∧ I64 a ∧ I64 b := by
  unfold headP at e
  split at e
  · cases e
  · rename_i h t hs
    split at e
    · rename_i hok
      split at e
      · rename_i hh
        obtain ⟨x, y, rfl⟩ := len2 hh.2
        simp only [Option.some.injEq, Prod.mk.injEq] at e
        obtain ⟨e1, e2⟩ := e
        have hx := List.all_eq_true.1 hok x (by simp)
        have hy := List.all_eq_true.1 hok y (by simp)
        have e1' : wV x = a := e1
        have e2' : wV y = b := e2
        refine ⟨?_, by rw [← e1']; exact (wOk_num hx).2, by rw [← e2']; exact (wOk_num hy).2⟩
        rw [spl_join hs, words_join hok, hh.1]
        show lnL wSource [a, b] = wSource ++ wordsL [wV x, wV y] ++ [10]
        rw [e1', e2']; rfl
      · cases e
    · cases e
theorem headP_back {a b : Int} (ha : I64 a) (hb : I64 b) : headP (wSource ++ wordsL [a, b]) = some (a, b) := by
  unfold headP
  rw [spl_words (by decide)]
  simp only
  have hI : ∀ n ∈ [a, b], I64 n := by intro x hx; simp at hx; rcases hx with rfl | rfl; exact ha; exact hb
  rw [if_pos (words_ok hI).1, (words_ok hI).2, if_pos (by simp)]
  rfl
end Go.Proofs.YtockkjhciojgbaaGreatDoor
