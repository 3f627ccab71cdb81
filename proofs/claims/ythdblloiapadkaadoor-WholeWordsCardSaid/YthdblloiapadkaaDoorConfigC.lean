
/- Configurations: their checks (config.Check, tidewaiterref19.Check), what a rule goes by (Only), sameness (Same), walked. No condition. -/
import Derived.Test.YthdblloiapadkaaDoorConfigB
namespace Go.Proofs.YthdblloiapadkaaDoor
set_option maxRecDepth 100000
set_option linter.unusedSimpArgs false
open Go.RowKit
set_option linter.unusedVariables false
set_option linter.unusedSimpArgs false

def fRl (r : Rl) : List Value := [.int .i64 r.1, .int .i64 r.2.1, .int .i64 r.2.2.1, .int .i64 r.2.2.2.1, .int .i64 r.2.2.2.2]
def rlC (r : Rl) : Int := ruleC r.1 r.2.1 r.2.2.1 r.2.2.2.1 r.2.2.2.2
def firstErr : List Rl → Int
  | [] => 0
  | r :: l => if rlC r = 0 then firstErr l else rlC r
theorem firstErr_at : ∀ {l : List Rl} {k : Nat} {r : Rl}, (∀ j x, j < k → l[j]? = some x → rlC x = 0) → l[k]? = some r → rlC r ≠ 0 → firstErr l = rlC r
  | [], k, r, _, h, _ => by simp at h
  | x :: l, 0, r, _, h, hr => by
    simp at h; subst h
    unfold firstErr; rw [if_neg hr]
  | x :: l, k + 1, r, h0, h, hr => by
    unfold firstErr
    rw [if_pos (h0 0 x (by omega) rfl)]
    exact firstErr_at (k := k) (fun j y hj hy => h0 (j + 1) y (by omega) (by simpa using hy)) (by simpa using h) hr
theorem firstErr_none : ∀ {l : List Rl}, (∀ x ∈ l, rlC x = 0) → firstErr l = 0
  | [], _ => rfl
  | x :: l, h => by
    unfold firstErr
    rw [if_pos (h x (List.mem_cons_self ..))]
    exact firstErr_none (fun y hy => h y (List.mem_cons_of_mem _ hy))
theorem mem_of_all {l : List Rl} {P : Rl → Prop} (h : ∀ j x, j < l.length → l[j]? = some x → P x) : ∀ x ∈ l, P x := by
  intro x hx
  obtain ⟨j, hj, e⟩ := List.mem_iff_getElem.1 hx
  exact h j x hj (by rw [List.getElem?_eq_getElem hj, e])
/-- whether there can be such a source -/
def cfgC (l : List Rl) (t d : Int) : Int := if l.length < 1 ∨ 4096 < l.length then 6 else if t < 1 ∨ d < 0 then 7 else firstErr l
theorem RdS.at5 {w : World} {A : Option Addr} {l : List Rl} (h : RdS w A 5 fRl l) {k : Nat} (hk : k < l.length) :
    ∃ ad a b c d e, A = some ad ∧ l[k]? = some (a, b, c, d, e) ∧ w.cell? (ad.add (k * 5)) = some (.int .i64 a) ∧ w.cell? ⟨(ad.add (k * 5)).block, (ad.add (k * 5)).off + 1, none⟩ = some (.int .i64 b) ∧
      w.cell? ⟨(ad.add (k * 5)).block, (ad.add (k * 5)).off + 2, none⟩ = some (.int .i64 c) ∧ w.cell? ⟨(ad.add (k * 5)).block, (ad.add (k * 5)).off + 3, none⟩ = some (.int .i64 d) ∧ w.cell? ⟨(ad.add (k * 5)).block, (ad.add (k * 5)).off + 4, none⟩ = some (.int .i64 e) := by
  obtain ⟨⟨a, b, c, d, e⟩, hx⟩ : ∃ x, l[k]? = some x := ⟨_, List.getElem?_eq_getElem hk⟩
  obtain ⟨ad, hA, hl, hc⟩ := h k _ hx
  exact ⟨ad, a, b, c, d, e, hA, hx, hc 0 _ rfl, hc 1 _ rfl, hc 2 _ rfl, hc 3 _ rfl, hc 4 _ rfl⟩
set_option maxHeartbeats 8000000 in
theorem config_Check (A : Option Addr) (cp : Nat) (l : List Rl) (t d : Int) (w : World) (hr : RdS w A 5 fRl l) (hl : l.length ≤ maxLen) :
    Calls Tryd.prog 34 #[.agg #[.slice A l.length cp, .int .i64 t, .int .i64 d]] w fun e w' => e = .returned (.int .i64 (cfgC l t d)) ∧ Below w.heap.size w w' := by
  have hlm : l.length ≤ 9223372036854775807 := by unfold maxLen at hl; omega
  have HK := hid' (Blk.new_ w 45 #[.slice A l.length cp, .int .i64 t, .int .i64 d])
  have HL0 := hid' (bel_alloc (bel_refl w) (.cells #[.slice A l.length cp, .int .i64 t, .int .i64 d] 45))
  have HR := hid' hr
  clear hr hl
  by_cases h0 : l.length = 0
  · have hc : cfgC l t d = 6 := by unfold cfgC; rw [if_pos (by omega)]
    rw [hc]
    have hz : ((l.length : Int) == 0) = true := by rw [h0]; rfl
    clear hc h0
    go_enter Tryd.func34, Tryd.ntmps34
    go_wp2
    go_ret
    exact ⟨rfl, HL0.out⟩
  · have hz : ((l.length : Int) == 0) = false := by rw [beq_eq_false_iff_ne]; omega
    by_cases h1 : 4096 < l.length
    · have hc : cfgC l t d = 6 := by unfold cfgC; rw [if_pos (by omega)]
      rw [hc]
      have hz1 : (4096 : Int) < (l.length : Int) := by omega
      clear hc
      go_enter Tryd.func34, Tryd.ntmps34
      go_wp2
      go_ret
      exact ⟨rfl, HL0.out⟩
    · have hz1 : (l.length : Int) ≤ 4096 := by omega
      by_cases h2 : t < 1
      · have hc : cfgC l t d = 7 := by unfold cfgC; rw [if_neg (by omega), if_pos (.inl h2)]
        rw [hc]
        clear hc
        go_enter Tryd.func34, Tryd.ntmps34
        go_wp2
        go_ret
        exact ⟨rfl, HL0.out⟩
      · have h2' : 1 ≤ t := by omega
        by_cases h3 : d < 0
        · have hc : cfgC l t d = 7 := by unfold cfgC; rw [if_neg (by omega), if_pos (.inr h3)]
          rw [hc]
          clear hc
          go_enter Tryd.func34, Tryd.ntmps34
          go_wp2
          go_ret
          exact ⟨rfl, HL0.out⟩
        · have h3' : 0 ≤ d := by omega
          have hc : cfgC l t d = firstErr l := by unfold cfgC; rw [if_neg (by omega), if_neg (by omega)]
          rw [hc]
          clear hc
          go_enter Tryd.func34, Tryd.ntmps34
          go_wp2
          go_loopw [4, 5, 29] (fun v4 v5 v29 wr => ∃ k : Nat, k ≤ l.length ∧ v29 = .int .i64 k ∧ (∀ j x, j < k → l[j]? = some x → rlC x = 0) ∧ Below w.heap.size w wr) (fun _ _ v29 _ => l.length - (intOf v29).toNat)
          case atStart => exact ⟨0, Nat.zero_le _, rfl, fun j x hj => by omega, HL0.out⟩
          case round =>
            obtain ⟨k, hk, rfl, hok, hL⟩ := hrel
            have HOK := hid' hok
            have HL := hid' hL
            by_cases hlt : k < l.length
            · have hlti : (k : Int) < (l.length : Int) := by omega
              obtain ⟨ad, a, b, p, n, s, rfl, hx, c0, c1, c2, c3, c4⟩ := (HR.out.below hL).at5 hlt
              have HX := hid' hx
              have HLa := hid' (bel_alloc HL.out (.cells #[.int .i64 a, .int .i64 b, .int .i64 p, .int .i64 n, .int .i64 s] 54))
              have HC := hid' (fun W => gen_Check a b p n s W)
              unfold ruleV at HC
              obtain ⟨e, he⟩ : ∃ e, e = ruleC a b p n s := ⟨_, rfl⟩
              have HEE := hid' (show rlC (a, b, p, n, s) = e from he.symm)
              rw [← he] at HC
              clear he hx hok hL
              by_cases he0 : e = 0
              · subst he0
                go_wp2_with fail
                refine (HC.out _).mono ?_
                rintro e' w2 ⟨rfl, hB2⟩
                go_wp2
                go_roundw
                case rel => exact ⟨k + 1, by omega, by go_num, fun j x hj hx => by
                  by_cases hjk : j = k
                  · subst hjk; rw [HX.out] at hx; rw [← Option.some.inj hx]; exact HEE.out
                  · exact HOK.out j x (by omega) hx, bel_then HLa.out hB2⟩
                case measure => (simp only [intOf]; omega)
              · have hez : (e == 0) = false := by rw [beq_eq_false_iff_ne]; exact he0
                have hfe := firstErr_at HOK.out HX.out (by rw [HEE.out]; exact he0)
                rw [HEE.out] at hfe
                have HF := hid' hfe
                clear hfe he0
                go_wp2_with fail
                refine (HC.out _).mono ?_
                rintro e' w2 ⟨rfl, hB2⟩
                go_wp2
                go_ret
                exact ⟨by rw [HF.out]; rfl, bel_then HLa.out hB2⟩
            · obtain rfl : k = l.length := by omega
              have hfe := firstErr_none (mem_of_all hok)
              have HF := hid' hfe
              clear hfe hok hL
              go_wp2
              go_ret
              exact ⟨by rw [HF.out]; rfl, HL.out⟩
set_option maxHeartbeats 8000000 in
theorem ref19_Check (A : Option Addr) (cp : Nat) (l : List Rl) (t d : Int) (w : World) (hr : RdS w A 5 fRl l) (hl : l.length ≤ maxLen) :
    Calls Tryd.prog 35 #[.agg #[.slice A l.length cp, .int .i64 t, .int .i64 d]] w fun e w' => e = .returned (.int .i64 (cfgC l t d)) ∧ Below w.heap.size w w' := by
  have hlm : l.length ≤ 9223372036854775807 := by unfold maxLen at hl; omega
  have HK := hid' (Blk.new_ w 45 #[.slice A l.length cp, .int .i64 t, .int .i64 d])
  have HL0 := hid' (bel_alloc (bel_refl w) (.cells #[.slice A l.length cp, .int .i64 t, .int .i64 d] 45))
  have HR := hid' hr
  clear hr hl
  by_cases h0 : l.length = 0
  · have hc : cfgC l t d = 6 := by unfold cfgC; rw [if_pos (by omega)]
    rw [hc]
    have hz : (l.length : Int) < 1 := by omega
    clear hc h0
    go_enter Tryd.func35, Tryd.ntmps35
    go_wp2
    go_ret
    exact ⟨rfl, HL0.out⟩
  · have hz : (1 : Int) ≤ (l.length : Int) := by omega
    by_cases h1 : 4096 < l.length
    · have hc : cfgC l t d = 6 := by unfold cfgC; rw [if_pos (by omega)]
      rw [hc]
      have hz1 : (4096 : Int) < (l.length : Int) := by omega
      clear hc
      go_enter Tryd.func35, Tryd.ntmps35
      go_wp2
      go_ret
      exact ⟨rfl, HL0.out⟩
    · have hz1 : (l.length : Int) ≤ 4096 := by omega
      by_cases h2 : t < 1
      · have hc : cfgC l t d = 7 := by unfold cfgC; rw [if_neg (by omega), if_pos (.inl h2)]
        rw [hc]
        clear hc
        go_enter Tryd.func35, Tryd.ntmps35
        go_wp2
        go_ret
        exact ⟨rfl, HL0.out⟩
      · have h2' : 1 ≤ t := by omega
        by_cases h3 : d < 0
        · have hc : cfgC l t d = 7 := by unfold cfgC; rw [if_neg (by omega), if_pos (.inr h3)]
          rw [hc]
          clear hc
          go_enter Tryd.func35, Tryd.ntmps35
          go_wp2
          go_ret
          exact ⟨rfl, HL0.out⟩
        · have h3' : 0 ≤ d := by omega
          have hc : cfgC l t d = firstErr l := by unfold cfgC; rw [if_neg (by omega), if_neg (by omega)]
          rw [hc]
          have hb0 : w.heap.size < (w.alloc (.cells #[.slice A l.length cp, .int .i64 t, .int .i64 d] 45)).heap.size := by simp
          clear hc
          go_enter Tryd.func35, Tryd.ntmps35
          go_wp2
          generalize hw0 : w.alloc (.cells #[.slice A l.length cp, .int .i64 t, .int .i64 d] 45) = w0 at *
          go_loopw [3, 4] (fun v3 v4 wr => ∃ k : Nat, k ≤ l.length ∧ v3 = .int .i64 k ∧ (∀ j x, j < k → l[j]? = some x → rlC x = 0) ∧ Blk wr w.heap.size 45 #[.slice A l.length cp, .int .i64 t, .int .i64 d] ∧ Below w.heap.size w wr) (fun v3 _ _ => l.length - (intOf v3).toNat)
          case atStart => exact ⟨0, Nat.zero_le _, rfl, fun j x hj => by omega, HK.out, HL0.out⟩
          case round =>
            obtain ⟨k, hk, rfl, hok, hB, hL⟩ := hrel
            have HOK := hid' hok
            have HL := hid' hL
            have HKK := hid' hB
            have e0 : wr.cell? ⟨w.heap.size, 0, none⟩ = some (.slice A l.length cp) := by simpa using hB.cell 0
            by_cases hlt : k < l.length
            · have hlti : (k : Int) < (l.length : Int) := by omega
              obtain ⟨ad, a, b, p, n, s, rfl, hx, c0, c1, c2, c3, c4⟩ := (HR.out.below hL).at5 hlt
              have HX := hid' hx
              have HC := hid' (fun W => ref13_Check a b p n s W)
              unfold ruleV at HC
              obtain ⟨e, he⟩ : ∃ e, e = ruleC a b p n s := ⟨_, rfl⟩
              have HEE := hid' (show rlC (a, b, p, n, s) = e from he.symm)
              rw [← he] at HC
              clear he hx hok hL hB
              by_cases he0 : e = 0
              · subst he0
                go_wp2_with fail
                refine (HC.out _).mono ?_
                rintro e' w2 ⟨rfl, hB2⟩
                go_wp2
                go_roundw
                case rel => exact ⟨k + 1, by omega, by go_num, fun j x hj hx => by
                  by_cases hjk : j = k
                  · subst hjk; rw [HX.out] at hx; rw [← Option.some.inj hx]; exact HEE.out
                  · exact HOK.out j x (by omega) hx, HKK.out.below hB2, bel_then HL.out hB2⟩
                case measure => (simp only [intOf]; omega)
              · have hez : (e == 0) = false := by rw [beq_eq_false_iff_ne]; exact he0
                have hfe := firstErr_at HOK.out HX.out (by rw [HEE.out]; exact he0)
                rw [HEE.out] at hfe
                have HF := hid' hfe
                clear hfe he0
                go_wp2_with fail
                refine (HC.out _).mono ?_
                rintro e' w2 ⟨rfl, hB2⟩
                go_wp2
                go_ret
                exact ⟨by rw [HF.out]; rfl, bel_then HL.out hB2⟩
            · obtain rfl : k = l.length := by omega
              have hfe := firstErr_none (mem_of_all hok)
              have HF := hid' hfe
              clear hfe hok hL hB
              go_wp2
              go_ret
              exact ⟨by rw [HF.out]; rfl, HL.out⟩
set_option maxHeartbeats 4000000 in
theorem ref19_Only (k b p n s : Int) (w : World) :
    Calls Tryd.prog 37 #[ruleV k b p n s] w fun e w' => e = .returned (.bool (onlyB k b p n s)) ∧ Below w.heap.size w w' := by
  unfold ruleV
  have hb0 := bel_refl w
  by_cases k0 : k = 0
  · subst k0
    have hr : onlyB 0 b p n s = ((s == 0) && (p == 0) && (n == 0)) := by unfold onlyB; rw [if_pos rfl]
    rw [hr]
    clear hr
    cases h1 : (s == 0) <;> cases h2 : (p == 0) <;> cases h3 : (n == 0)
    all_goals
      go_enter Tryd.func37, Tryd.ntmps37
      go_wp2
      go_ret
      exact ⟨rfl, bel_alloc hb0 _⟩
  · by_cases k1 : k = 1
    · subst k1
      have hr : onlyB 1 b p n s = ((b == 0) && (p == 0) && (n == 0)) := by unfold onlyB; rw [if_neg (by decide), if_pos rfl]
      rw [hr]
      clear hr
      cases h1 : (b == 0) <;> cases h2 : (p == 0) <;> cases h3 : (n == 0)
      all_goals
        go_enter Tryd.func37, Tryd.ntmps37
        go_wp2
        go_ret
        exact ⟨rfl, bel_alloc hb0 _⟩
    · by_cases k2 : k = 2
      · subst k2
        have hr : onlyB 2 b p n s = ((b == 0) && (s == 0)) := by unfold onlyB; rw [if_neg (by decide), if_neg (by decide), if_pos rfl]
        rw [hr]
        clear hr
        cases h1 : (b == 0) <;> cases h2 : (s == 0)
        all_goals
          go_enter Tryd.func37, Tryd.ntmps37
          go_wp2
          go_ret
          exact ⟨rfl, bel_alloc hb0 _⟩
      · have hr : onlyB k b p n s = false := by unfold onlyB; rw [if_neg k0, if_neg k1, if_neg k2]
        rw [hr]
        clear hr
        go_enter Tryd.func37, Tryd.ntmps37
        go_wp2
        go_ret
        exact ⟨rfl, bel_alloc hb0 _⟩
end Go.Proofs.YthdblloiapadkaaDoor
