
/- What the configurations' laws say of the package, walked. No condition but the tables and variables of Go's own library. -/
import Derived.Test.YthdblloiapadkaaDoorConfigH
import Derived.Test.YthdblloiapadkaaDoorConfigG
import Derived.Test.YthdblloiapadkaaDoorConfigF
namespace Go.Proofs.YthdblloiapadkaaDoor
set_option maxRecDepth 100000
set_option linter.unusedSimpArgs false
open Go.RowKit
set_option linter.unusedVariables false
set_option linter.unusedSimpArgs false

theorem flat_get : ∀ {l : List Rl} {j : Nat} {x : Rl}, l[j]? = some x → ∀ i u, (fRl x)[i]? = some u → (l.flatMap fRl)[j * 5 + i]? = some u
  | [], j, x, h, _, _, _ => by simp at h
  | r :: l, 0, x, h, i, u, hi => by
    simp at h; subst h
    have hl : i < (fRl r).length := (List.getElem?_eq_some_iff.1 hi).1
    rw [List.flatMap_cons, Nat.zero_mul, Nat.zero_add, List.getElem?_append_left hl]
    exact hi
  | r :: l, j + 1, x, h, i, u, hi => by
    have ih := flat_get (l := l) (j := j) (x := x) (by simpa using h) i u hi
    have hr : (fRl r).length = 5 := rfl
    rw [List.flatMap_cons, List.getElem?_append_right (by omega), hr, show (j + 1) * 5 + i - 5 = j * 5 + i by omega]
    exact ih
theorem rd_rlS {w : World} {A : Option Addr} {l : List Rl} (h : Rd w A (l.flatMap fRl)) : RdS w A 5 fRl l := fun j x hx => by
  obtain ⟨ad, hA, c0⟩ := h _ _ (flat_get hx 0 (.int .i64 x.1) rfl)
  refine ⟨ad, hA, rfl, fun i u hi => ?_⟩
  obtain ⟨ad', hA', c1⟩ := h _ _ (flat_get hx i u hi)
  rw [hA] at hA'; injection hA' with hA'; subst hA'
  rw [add_add']; exact c1
theorem rlRows_map (l : List ByteArray) : rlRows l = (l.map rvP).flatMap fRl := by unfold rlRows; rw [List.flatMap_map]
theorem parse_ok (A : Option Addr) (c : Nat) (x : ByteArray) (l : List ByteArray) (a b : Int) (w : World) (hr : Rd w A ((x :: l).map .string)) (hl : (x :: l).length ≤ 1000) (hlc : (x :: l).length ≤ c) (hz : ∀ y ∈ x :: l, y.size ≤ 10000) (hP : PowT w) (hE : ErV w) (hM : MaxT w)
    (hh : headP (bL x) = some (a, b)) (hok : ∀ y ∈ l, rokP y = true) :
    Calls Tryd.prog 36 #[.slice A (x :: l).length c] w fun e w' => (∃ A' c', e = .returned (.tuple #[.agg #[.slice A' l.length c', .int .i64 a, .int .i64 b], .int .i64 0]) ∧ RdS w' A' 5 fRl (l.map rvP)) ∧ Below w.heap.size w w' := by
  have hpb : parseBad (x :: l) = 0 := by
    show (match headP (bL x) with | none => 1 | some _ => match badIdx l with | some k => k + 2 | none => 0) = 0
    rw [hh, badIdx_none (fun j y hj hy => hok y (List.mem_of_getElem? hy))]
  refine (config_Parse A c (x :: l) w hr hl hlc hz hP hE hM).mono ?_
  rintro e w' ⟨hc, hB⟩
  rcases hc with ⟨hc, _⟩ | ⟨_, x2, l2, a2, b2, v, hx, hh2, he, hown, _⟩
  · exact absurd hpb hc
  · simp only [List.cons.injEq] at hx
    obtain ⟨rfl, rfl⟩ := hx
    rw [hh] at hh2
    simp only [Option.some.injEq, Prod.mk.injEq] at hh2
    obtain ⟨rfl, rfl⟩ := hh2
    obtain ⟨A', c', rfl, _, _, hrd⟩ := own_rd hown
    rw [rlRows_map] at hrd
    exact ⟨⟨A', c', he, rd_rlS hrd⟩, hB⟩
theorem parse_bad (A : Option Addr) (c : Nat) (xs : List ByteArray) (w : World) (hr : Rd w A (xs.map .string)) (hl : xs.length ≤ 1000) (hlc : xs.length ≤ c) (hz : ∀ y ∈ xs, y.size ≤ 10000) (hP : PowT w) (hE : ErV w) (hM : MaxT w)
    (hb : parseBad xs ≠ 0) :
    Calls Tryd.prog 36 #[.slice A xs.length c] w fun e w' => e = .returned (.tuple #[.agg #[.slice none 0 0, .int .i64 0, .int .i64 0], .int .i64 (parseBad xs : Int)]) ∧ Below w.heap.size w w' := by
  refine (config_Parse A c xs w hr hl hlc hz hP hE hM).mono ?_
  rintro e w' ⟨hc, hB⟩
  rcases hc with ⟨_, he⟩ | ⟨h, _⟩
  · exact ⟨he, hB⟩
  · exact absurd h hb
def s510 : ByteArray := ⟨#[115, 111, 117, 114, 99, 101, 32, 53, 32, 49, 48]⟩
def sB3 : ByteArray := ⟨#[98, 111, 117, 110, 100, 101, 100, 32, 51]⟩
def sB : ByteArray := ⟨#[98, 111, 117, 110, 100, 101, 100]⟩
theorem itoa1 {d : Nat} (h : d < 10) : Lib.itoa (d : Int) = [UInt8.ofNat (48 + d)] := itoa_pos_small h
theorem itoa_10 : Lib.itoa 10 = [49, 48] := by
  rw [show (10 : Int) = ((10 : Nat) : Int) from rfl, itoa_pos_big (by decide), show 10 / 10 = 1 from rfl, itoa_pos_small (by decide)]; rfl
theorem s510_head : headP (bL s510) = some (5, 10) := by
  have h : bL s510 = wSource ++ wordsL [5, 10] := by
    unfold wordsL
    rw [List.flatMap_cons, List.flatMap_cons, List.flatMap_nil, itoa_10, show (5 : Int) = ((5 : Nat) : Int) from rfl, itoa1 (by decide)]; rfl
  rw [h]
  exact headP_back (by unfold I64; decide) (by unfold I64; decide)
theorem sB3_rule : ruleP (bL sB3) = some (0, 3, 0, 0, 0) := by
  have h : bL sB3 = wBounded ++ wordsL [3] := by
    unfold wordsL
    rw [List.flatMap_cons, List.flatMap_nil, show (3 : Int) = ((3 : Nat) : Int) from rfl, itoa1 (by decide)]; rfl
  rw [h, ruleP_words (by decide) (by intro x hx; rw [List.mem_singleton] at hx; subst hx; unfold I64; decide)]
  rfl
theorem sB_rule : ruleP (bL sB) = none := by
  have h : bL sB = wBounded ++ wordsL [] := rfl
  rw [h, ruleP_words (by decide) (by intro x hx; cases hx)]
  rfl
set_option maxHeartbeats 8000000 in
theorem speaks19 (w : World) (hP : PowT w) (hE : ErV w) (hM : MaxT w) : Calls Tryd.prog 33 #[] w fun e w' => e = .returned (.bool true) ∧ Below w.heap.size w w' := by
  have HP := hid' hP
  have HE := hid' hE
  have HM := hid' hM
  have hba := bel_alloc (bel_refl w) (.cells #[.string s510, .string sB3] 9)
  have H1 := hid' (parse_ok (some ⟨w.heap.size, 0, none⟩) 2 s510 [sB3] 5 10 _ ((Blk.new_ w 9 #[.string s510, .string sB3]).rd rfl) (by decide) (by decide) (by decide) (hP.below hba) (hE.below hba) (hM.below hba) s510_head (by intro y hy; rw [List.mem_singleton] at hy; subst hy; unfold rokP; rw [sB3_rule]; rfl))
  have hrv : [sB3].map rvP = [(0, 3, 0, 0, 0)] := by unfold rvP; rw [List.map_cons, List.map_nil, sB3_rule]; rfl
  rw [hrv] at H1
  have hpb : parseBad [s510, sB] = 2 := by
    show (match headP (bL s510) with | none => 1 | some _ => match badIdx [sB] with | some k => k + 2 | none => 0) = 2
    rw [s510_head]
    have : badIdx [sB] = some 0 := by unfold badIdx rokP; rw [sB_rule]; rfl
    rw [this]
  have H2 := hid' (fun (W : World) (hB : Below w.heap.size w W) => (by
    have hbb := bel_alloc hB (.cells #[.string s510, .string sB] 9)
    have h := parse_bad (some ⟨W.heap.size, 0, none⟩) 2 [s510, sB] (W.alloc (.cells #[.string s510, .string sB] 9)) ((Blk.new_ W 9 #[.string s510, .string sB]).rd rfl) (by decide) (by decide) (by decide) (hP.below hbb) (hE.below hbb) (hM.below hbb) (by rw [hpb]; decide)
    rw [hpb] at h
    exact h : Calls Tryd.prog 36 #[.slice (some ⟨W.heap.size, 0, none⟩) 2 2] (W.alloc (.cells #[.string s510, .string sB] 9)) fun e w' => e = .returned (.tuple #[.agg #[.slice none 0 0, .int .i64 0, .int .i64 0], .int .i64 2]) ∧ Below (W.alloc (.cells #[.string s510, .string sB] 9)).heap.size (W.alloc (.cells #[.string s510, .string sB] 9)) w'))
  unfold s510 sB3 at H1
  unfold s510 sB at H2
  unfold s510 sB3 at hba
  have HBA := hid' hba
  clear hba hrv hpb hP hE hM
  go_enter Tryd.func33, Tryd.ntmps33
  go_wp2_with fail
  refine H1.out.mono ?_
  rintro e w1 ⟨⟨A1, c1, rfl, hrd⟩, hB1⟩
  have HL1 := hid' (bel_alloc (bel_then HBA.out hB1) (.cells #[.slice A1 1 c1, .int .i64 5, .int .i64 10] 45))
  have HK1 := hid' (Blk.new_ w1 45 #[.slice A1 1 c1, .int .i64 5, .int .i64 10])
  have HR1 := hid' (hrd.below (bel_alloc (bel_refl w1) (.cells #[.slice A1 1 c1, .int .i64 5, .int .i64 10] 45)))
  clear hrd hB1
  generalize hw2 : w1.alloc (.cells #[.slice A1 1 c1, .int .i64 5, .int .i64 10] 45) = w2 at *
  generalize hb1 : w1.heap.size = b1 at *
  have HX := hid' (H2.out w2 HL1.out)
  go_wp2_with fail
  refine HX.out.mono ?_
  rintro e w3 ⟨rfl, hB3⟩
  have hbb := bel_alloc (bel_refl w2) (.cells #[.string ⟨#[115, 111, 117, 114, 99, 101, 32, 53, 32, 49, 48]⟩, .string ⟨#[98, 111, 117, 110, 100, 101, 100]⟩] 9)
  have hb4 := bel_alloc (bel_then hbb hB3) (.cells #[.slice none 0 0, .int .i64 0, .int .i64 0] 45)
  have HL4 := hid' (bel_then HL1.out hb4)
  have HK4 := hid' (HK1.out.below hb4)
  have HR4 := hid' (HR1.out.below hb4)
  have c0 : (w3.alloc (.cells #[.slice none 0 0, .int .i64 0, .int .i64 0] 45)).cell? ⟨b1, 0, none⟩ = some (.slice A1 1 c1) := by simpa using HK4.out.cell 0
  have c1' : (w3.alloc (.cells #[.slice none 0 0, .int .i64 0, .int .i64 0] 45)).cell? ⟨b1, 1, none⟩ = some (.int .i64 5) := by simpa using HK4.out.cell 1
  have c2' : (w3.alloc (.cells #[.slice none 0 0, .int .i64 0, .int .i64 0] 45)).cell? ⟨b1, 2, none⟩ = some (.int .i64 10) := by simpa using HK4.out.cell 2
  obtain ⟨ad, a0, a1, a2, a3, a4, rfl, hx, k0, k1, k2, k3, k4⟩ := HR4.out.at5 (k := 0) (by decide)
  simp only [List.getElem?_cons_zero, Option.some.injEq, Prod.mk.injEq] at hx
  obtain ⟨rfl, rfl, rfl, rfl, rfl⟩ := hx
  change (w3.alloc (.cells #[.slice none 0 0, .int .i64 0, .int .i64 0] 45)).cell? ad = some (.int .i64 0) at k0
  change (w3.alloc (.cells #[.slice none 0 0, .int .i64 0, .int .i64 0] 45)).cell? ⟨ad.block, ad.off + 1, none⟩ = some (.int .i64 3) at k1
  change (w3.alloc (.cells #[.slice none 0 0, .int .i64 0, .int .i64 0] 45)).cell? ⟨ad.block, ad.off + 2, none⟩ = some (.int .i64 0) at k2
  change (w3.alloc (.cells #[.slice none 0 0, .int .i64 0, .int .i64 0] 45)).cell? ⟨ad.block, ad.off + 3, none⟩ = some (.int .i64 0) at k3
  change (w3.alloc (.cells #[.slice none 0 0, .int .i64 0, .int .i64 0] 45)).cell? ⟨ad.block, ad.off + 4, none⟩ = some (.int .i64 0) at k4
  have HC := hid' (config_Check (some ad) c1 [(0, 3, 0, 0, 0)] 5 10 (w3.alloc (.cells #[.slice none 0 0, .int .i64 0, .int .i64 0] 45)) HR4.out (by decide))
  rw [show cfgC [(0, 3, 0, 0, 0)] 5 10 = 0 from rfl] at HC
  have HZ := hid' (fun W => config_Check none 0 [] 0 0 W (fun j x h => by simp at h) (by decide))
  rw [show cfgC [] 0 0 = 6 from rfl] at HZ
  clear hbb hB3 hb4 HR4 HK4 HR1 HK1 HX H2 H1
  go_wp2_with fail
  refine HC.out.mono ?_
  rintro e w5 ⟨rfl, hB5⟩
  have HL5 := hid' (bel_then HL4.out hB5)
  clear hB5 k0 k1 k2 k3 k4 c0 c1' c2'
  go_wp2_with fail
  refine (HZ.out _).mono ?_
  rintro e w6 ⟨rfl, hB6⟩
  go_wp2
  go_ret
  exact ⟨rfl, bel_then HL5.out hB6⟩
end Go.Proofs.YthdblloiapadkaaDoor
