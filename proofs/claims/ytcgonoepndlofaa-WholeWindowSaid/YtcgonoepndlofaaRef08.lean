
/- The reference of layer 8 (hist), walked. No condition. -/
import Derived.Test.YtcgonoepndlofaaAppOwn
import Derived.Test.YtcgonoepndlofaaHistPure
import Derived.Test.YtcgonoepndlofaaSat
namespace Go.Proofs.Ytcgonoepndlofaa
set_option maxRecDepth 100000
set_option linter.unusedSimpArgs false
open Go.RowKit
set_option linter.unusedVariables false

theorem belowL_snoc (l : List Int) (x n : Int) : belowL (l ++ [x]) n = belowL l n + if x ≤ n then 1 else 0 := by
  unfold belowL; rw [List.countP_append, List.countP_singleton]; simp
theorem belowL_le (l : List Int) (n : Int) : belowL l n ≤ l.length := List.countP_le_length
theorem ref08_Below (A : Option Addr) (c : Nat) (l : List Int) (n : Int) (w : World) (hr : Rd w A (l.map (.int .i64))) (hn : l.length ≤ 100000) :
    Calls Try.prog 55 #[.slice A l.length c, .int .i64 n] w fun e w' => e = .returned (.int .i64 (belowL l n : Nat)) ∧ w = w' := by
  have H := hid' hr
  clear hr
  go_enter Try.func55, Try.ntmps55
  go_wp2
  go_loop [5, 6] (fun v5 v6 => ∃ k : Nat, k ≤ l.length ∧ v6 = .int .i64 k ∧ v5 = .int .i64 (belowL (l.take k) n : Nat)) (fun _ v6 => l.length - (intOf v6).toNat)
  case atStart => exact ⟨0, Nat.zero_le _, rfl, rfl⟩
  case round =>
    obtain ⟨k, hk, rfl, rfl⟩ := hrel
    by_cases hlt : k < l.length
    · obtain ⟨ad, x, rfl, hx, hc⟩ := Rd.at_ H.out hlt
      have HS := hid' (show belowL (l.take (k + 1)) n = belowL (l.take k) n + if x ≤ n then 1 else 0 by rw [take_snoc' hx, belowL_snoc])
      have hle := belowL_le (l.take k) n
      rw [List.length_take] at hle
      clear hx
      generalize hm : belowL (l.take k) n = m at *
      clear hm
      by_cases hxm : x ≤ n
      · rw [if_pos hxm] at HS
        go_wp2
        go_round
        case rel => exact ⟨k + 1, by omega, by go_num, by rw [HS.out]; go_num⟩
        case measure => simp [intOf]; omega
      · rw [if_neg hxm] at HS
        go_wp2
        go_round
        case rel => exact ⟨k + 1, by omega, by go_num, by rw [HS.out]; rfl⟩
        case measure => simp [intOf]; omega
    · go_wp2
      go_ret
      exact ⟨ret_int (by rw [List.take_of_length_le (by omega)]), rfl⟩
def leastP (l : List Int) (many : Int) : Int → Bool := fun x => decide (many ≤ (belowL l x : Int))
def percP (l : List Int) (p : Int) : Int → Bool := fun x => decide (p * (l.length : Int) ≤ (belowL l x : Int) * 100)
set_option maxHeartbeats 2000000 in
theorem ref08_Least (A : Option Addr) (c : Nat) (l : List Int) (many : Int) (w : World) (hr : Rd w A (l.map (.int .i64))) (hn : l.length ≤ 100000) :
    Calls Try.prog 18 #[.slice A l.length c, .int .i64 many] w fun e w' => e = .returned (.tuple #[.int .i64 (lstOf (leastP l many) l).1, .bool (lstOf (leastP l many) l).2]) ∧ w = w' := by
  have H := hid' hr
  clear hr
  go_enter Try.func18, Try.ntmps18
  go_wp2
  go_loop [6, 7, 8] (fun v6 v7 v8 => ∃ k : Nat, k ≤ l.length ∧ v8 = .int .i64 k ∧ v6 = .int .i64 (lstOf (leastP l many) (l.take k)).1 ∧ v7 = .bool (lstOf (leastP l many) (l.take k)).2) (fun _ _ v8 => l.length - (intOf v8).toNat)
  case atStart => exact ⟨0, Nat.zero_le _, rfl, rfl, rfl⟩
  case round =>
    obtain ⟨k, hk, rfl, rfl, rfl⟩ := hrel
    by_cases hlt : k < l.length
    · obtain ⟨ad, x, rfl, hx, hc⟩ := Rd.at_ H.out hlt
      have HS := hid' (show lstOf (leastP l many) (l.take (k + 1)) = lstS (leastP l many) (lstOf (leastP l many) (l.take k)) x by rw [take_snoc' hx, lst_snoc])
      have HB := hid' (fun w hr => ref08_Below (some ad) c l x w hr hn)
      have hbl := belowL_le l x
      clear hx
      obtain ⟨⟨o, b⟩, hob⟩ : ∃ ob, lstOf (leastP l many) (l.take k) = ob := ⟨_, rfl⟩
      rw [hob] at HS ⊢
      clear hob
      unfold lstS at HS
      generalize hM : belowL l x = M at *
      by_cases hp : (leastP l many) x = true
      · have hp' := hp
        rw [show leastP l many x = decide (many ≤ (M : Int)) by unfold leastP; rw [hM], decide_eq_true_eq] at hp'
        cases b
        · rw [if_pos ⟨hp, .inl rfl⟩] at HS
          clear hM hp
          go_wp2_with (go_at_call 55; refine (HB.out _ H.out).mono ?_; rintro e w' ⟨rfl, rfl⟩)
          all_goals first | (exfalso; omega) | skip
          go_round
          case rel => exact ⟨k + 1, by omega, by go_num, by rw [HS.out], by rw [HS.out]⟩
          case measure => simp [intOf]; omega
        · by_cases hxo : x < o
          · rw [if_pos ⟨hp, .inr hxo⟩] at HS
            clear hM hp
            go_wp2_with (go_at_call 55; refine (HB.out _ H.out).mono ?_; rintro e w' ⟨rfl, rfl⟩)
            all_goals first | (exfalso; omega) | skip
            go_round
            case rel => exact ⟨k + 1, by omega, by go_num, by rw [HS.out], by rw [HS.out]⟩
            case measure => simp [intOf]; omega
          · rw [if_neg (fun h => by rcases h.2 with h | h; cases h; exact hxo h)] at HS
            clear hM hp
            go_wp2_with (go_at_call 55; refine (HB.out _ H.out).mono ?_; rintro e w' ⟨rfl, rfl⟩)
            all_goals first | (exfalso; omega) | skip
            go_round
            case rel => exact ⟨k + 1, by omega, by go_num, by rw [HS.out], by rw [HS.out]⟩
            case measure => simp [intOf]; omega
      · have hp' := hp
        rw [show leastP l many x = decide (many ≤ (M : Int)) by unfold leastP; rw [hM], decide_eq_true_eq] at hp'
        rw [if_neg (fun h => hp h.1)] at HS
        clear hM hp
        go_wp2_with (go_at_call 55; refine (HB.out _ H.out).mono ?_; rintro e w' ⟨rfl, rfl⟩)
        all_goals first | (exfalso; omega) | skip
        go_round
        case rel => exact ⟨k + 1, by omega, by go_num, by rw [HS.out], by rw [HS.out]⟩
        case measure => simp [intOf]; omega
    · go_wp2
      go_ret2
      exact ⟨by rw [List.take_of_length_le (by omega)]; rfl, rfl⟩

set_option maxHeartbeats 2000000 in
theorem ref08_Percent (A : Option Addr) (c : Nat) (l : List Int) (p : Int) (w : World) (hr : Rd w A (l.map (.int .i64))) (hn : l.length ≤ 100000) (hp0 : 0 ≤ p) (hp1 : p ≤ 100) :
    Calls Try.prog 20 #[.slice A l.length c, .int .i64 p] w fun e w' => e = .returned (.tuple #[.int .i64 (lstOf (percP l p) l).1, .bool (lstOf (percP l p) l).2]) ∧ w = w' := by
  have H := hid' hr
  obtain ⟨Q, hQ⟩ : ∃ Q : Nat, p * (l.length : Int) = (Q : Int) := ⟨(p * l.length).toNat, (Int.toNat_of_nonneg (Int.mul_nonneg hp0 (by omega))).symm⟩
  have hQb : Q ≤ 10000000 := by
    have h1 : p * (l.length : Int) ≤ 100 * 100000 := Int.mul_le_mul hp1 (by omega) (by omega) (by omega)
    omega
  clear hr
  go_enter Try.func20, Try.ntmps20
  go_wp2
  go_loop [6, 7, 8] (fun v6 v7 v8 => ∃ k : Nat, k ≤ l.length ∧ v8 = .int .i64 k ∧ v6 = .int .i64 (lstOf (percP l p) (l.take k)).1 ∧ v7 = .bool (lstOf (percP l p) (l.take k)).2) (fun _ _ v8 => l.length - (intOf v8).toNat)
  case atStart => exact ⟨0, Nat.zero_le _, rfl, rfl, rfl⟩
  case round =>
    obtain ⟨k, hk, rfl, rfl, rfl⟩ := hrel
    by_cases hlt : k < l.length
    · obtain ⟨ad, x, rfl, hx, hc⟩ := Rd.at_ H.out hlt
      have HS := hid' (show lstOf (percP l p) (l.take (k + 1)) = lstS (percP l p) (lstOf (percP l p) (l.take k)) x by rw [take_snoc' hx, lst_snoc])
      have HB := hid' (fun w hr => ref08_Below (some ad) c l x w hr hn)
      have hbl := belowL_le l x
      clear hx
      obtain ⟨⟨o, b⟩, hob⟩ : ∃ ob, lstOf (percP l p) (l.take k) = ob := ⟨_, rfl⟩
      rw [hob] at HS ⊢
      clear hob
      unfold lstS at HS
      generalize hM : belowL l x = M at *
      by_cases hp : (percP l p) x = true
      · have hp' := hp
        rw [show percP l p x = decide ((Q : Int) ≤ (M : Int) * 100) by unfold percP; rw [hM, hQ], decide_eq_true_eq] at hp'
        cases b
        · rw [if_pos ⟨hp, .inl rfl⟩] at HS
          clear hM hp
          go_wp2_with (go_at_call 55; refine (HB.out _ H.out).mono ?_; rintro e w' ⟨rfl, rfl⟩)
          all_goals first | (exfalso; omega) | skip
          go_round
          case rel => exact ⟨k + 1, by omega, by go_num, by rw [HS.out], by rw [HS.out]⟩
          case measure => simp [intOf]; omega
        · by_cases hxo : x < o
          · rw [if_pos ⟨hp, .inr hxo⟩] at HS
            clear hM hp
            go_wp2_with (go_at_call 55; refine (HB.out _ H.out).mono ?_; rintro e w' ⟨rfl, rfl⟩)
            all_goals first | (exfalso; omega) | skip
            go_round
            case rel => exact ⟨k + 1, by omega, by go_num, by rw [HS.out], by rw [HS.out]⟩
            case measure => simp [intOf]; omega
          · rw [if_neg (fun h => by rcases h.2 with h | h; cases h; exact hxo h)] at HS
            clear hM hp
            go_wp2_with (go_at_call 55; refine (HB.out _ H.out).mono ?_; rintro e w' ⟨rfl, rfl⟩)
            all_goals first | (exfalso; omega) | skip
            go_round
            case rel => exact ⟨k + 1, by omega, by go_num, by rw [HS.out], by rw [HS.out]⟩
            case measure => simp [intOf]; omega
      · have hp' := hp
        rw [show percP l p x = decide ((Q : Int) ≤ (M : Int) * 100) by unfold percP; rw [hM, hQ], decide_eq_true_eq] at hp'
        rw [if_neg (fun h => hp h.1)] at HS
        clear hM hp
        go_wp2_with (go_at_call 55; refine (HB.out _ H.out).mono ?_; rintro e w' ⟨rfl, rfl⟩)
        all_goals first | (exfalso; omega) | skip
        go_round
        case rel => exact ⟨k + 1, by omega, by go_num, by rw [HS.out], by rw [HS.out]⟩
        case measure => simp [intOf]; omega
    · go_wp2
      go_ret2
      exact ⟨by rw [List.take_of_length_le (by omega)]; rfl, rfl⟩
def without (l : List Int) (n : Int) : List Int := l.erase n
theorem erase_at {l : List Int} {n : Int} {k : Nat} (h1 : ∀ j x, j < k → l[j]? = some x → x ≠ n) (h2 : l[k]? = some n) : l.erase n = l.take k ++ l.drop (k + 1) := by
  induction l generalizing k with
  | nil => simp at h2
  | cons a l ih =>
    cases k with
    | zero => simp at h2; subst h2; simp
    | succ k =>
      have ha := h1 0 a (by omega) rfl
      rw [List.erase_cons_tail (by simpa using ha), ih (k := k) (fun j x hj hx => h1 (j + 1) x (by omega) (by simpa using hx)) (by simpa using h2)]
      rfl
set_option maxHeartbeats 2000000 in
theorem ref08_Without (A : Option Addr) (c : Nat) (l : List Int) (n : Int) (w : World) (hr : Rd w A (l.map (.int .i64))) (hn : l.length ≤ 100000) (hlc : l.length ≤ c) :
    Calls Try.prog 15 #[.slice A l.length c, .int .i64 n] w fun e w' => ∃ v, e = .returned (.tuple #[v, .bool (decide (n ∈ l))]) ∧ Below w.heap.size w w' ∧
      ((n ∈ l ∧ w'.ownsRow w.heap.size 3 1 v (l.erase n).length ((l.erase n).map (.int .i64))) ∨ (n ∉ l ∧ v = .slice A l.length c)) := by
  have H := hid' hr
  clear hr
  go_enter Try.func15, Try.ntmps15
  go_wp2
  go_loop [6] (fun v6 => ∃ k : Nat, k ≤ l.length ∧ v6 = .int .i64 k ∧ Hid (∀ j x, j < k → l[j]? = some x → x ≠ n)) (fun v6 => l.length - (intOf v6).toNat)
  case atStart => exact ⟨0, Nat.zero_le _, rfl, fun j x hj => by omega⟩
  case round =>
    obtain ⟨k, hk, rfl, HN⟩ := hrel
    by_cases hlt : k < l.length
    · obtain ⟨ad, x, rfl, hx, hc⟩ := Rd.at_ H.out hlt
      by_cases hxn : x = n
      · subst hxn
        have HM := hid' (List.mem_of_getElem? hx)
        have HE := hid' (erase_at HN.out hx)
        have hcuth := cut_h (P := Try.prog) 22 3 1 Try.underlying22 (by kernel_rfl) (some ad) l.length c k (by omega)
        obtain ⟨k1, hk1⟩ : ∃ k1, k1 = k + 1 := ⟨_, rfl⟩
        have z1 : (k : Int) + 1 = (k1 : Int) := by omega
        have z2 : IntKind.i64.wrap (k1 : Int) = (k1 : Int) := by rw [IntKind.wrap_i64]; omega
        have z3 : (0 : Int) ≤ (k1 : Int) := by omega
        have z4 : (k1 : Int) ≤ (l.length : Int) := by omega
        have hcutl := cut_l (P := Try.prog) 22 3 1 Try.underlying22 (by kernel_rfl) (some ad) l.length c k1 (by omega)
        rw [← hk1] at HE
        have hrA : Rd w (some ad) ((l.take k).map (.int .i64)) := H.out.take_map k
        have hrB := H.out.cut k1 1 c (l.length - k1) (fun e => by omega)
        have hlA : ((l.take k).map (Value.int .i64)).length = k * 1 := by simp; omega
        have hlB : (((l.map (Value.int .i64)).drop (k1 * 1)).take (l.length - k1)).length = (l.length - k1) * 1 := by simp
        have h1A : ∀ u ∈ (l.take k).map (Value.int .i64), u.oneCell' = true := by intro u hu; obtain ⟨y, _, rfl⟩ := List.mem_map.1 hu; rfl
        have h1B : ∀ u ∈ ((l.map (Value.int .i64)).drop (k1 * 1)).take (l.length - k1), u.oneCell' = true := by
          intro u hu
          obtain ⟨y, _, rfl⟩ := List.mem_map.1 (List.mem_of_mem_drop (List.mem_of_mem_take hu)); rfl
        have hres : (l.take k).map (Value.int .i64) ++ ((l.map (Value.int .i64)).drop (k1 * 1)).take (l.length - k1) = ((l.take k) ++ l.drop k1).map (.int .i64) := by
          rw [List.map_append, Nat.mul_one, ← List.map_drop, List.take_of_length_le (l := (l.drop k1).map (Value.int .i64)) (by simp)]
        have HA1 := hid' (fun (ty : TypeId) (W : World) (hd : Dr (w.alloc (.cells #[] 3)) W) => show ∃ v' w', (Builtin.append_ #[22, 22] ty #[.slice (some ⟨w.heap.size, 0, none⟩) 0 0, .slice (some ad) k c]).run Try.prog W = .ok v' w' ∧ Hid (w'.ownsRow w.heap.size 3 1 v' (0 + k) ([] ++ (l.take k).map (.int .i64)) ∧ Below w.heap.size w w') from by
          have ho : W.ownsRow w.heap.size 3 1 (.slice (some ⟨w.heap.size, 0, none⟩) 0 0) 0 [] := by obtain ⟨q, rfl⟩ := hd; exact own_lit0 w _ _ _ (Nat.le_refl _)
          have hB : Below w.heap.size w W := bel_then (bel_alloc (bel_refl w) _) hd.below
          obtain ⟨v', w', h1, h2, h3, h4⟩ := run_app (P := Try.prog) W w.heap.size 22 ty 3 (.int .i64 0) 1 8 Try.underlying22 (by kernel_rfl) rfl (by decide) _ 0 [] ho (some ad) k c _ hlA (hrA.below hB) h1A (by unfold maxLen; omega) (by omega) hB.size
          refine ⟨v', w', h1, h2, bel_mod hB (grown_mod h3) (fun i hi e => ?_)⟩
          simp [Value.ownBlock] at e; omega)
        have HA2 := hid' (fun (ty : TypeId) (v1 : Value) (W1 W : World) (h0 : W1.ownsRow w.heap.size 3 1 v1 (0 + k) ([] ++ (l.take k).map (.int .i64)) ∧ Below w.heap.size w W1) (hd : Dr W1 W) => show ∃ v' w', (Builtin.append_ #[22, 22] ty #[v1, .slice (cutA (some ad) k1 1 c) (l.length - k1) (c - k1)]).run Try.prog W = .ok v' w' ∧ Hid (w'.ownsRow w.heap.size 3 1 v' (0 + k + (l.length - k1)) ([] ++ (l.take k).map (.int .i64) ++ ((l.map (Value.int .i64)).drop (k1 * 1)).take (l.length - k1)) ∧ Below w.heap.size w w') from by
          have ho : W.ownsRow w.heap.size 3 1 v1 (0 + k) ([] ++ (l.take k).map (.int .i64)) := by obtain ⟨q, rfl⟩ := hd; exact h0.1
          have hB : Below w.heap.size w W := bel_then h0.2 hd.below
          obtain ⟨v', w', h1, h2, h3, h4⟩ := run_app (P := Try.prog) W w.heap.size 22 ty 3 (.int .i64 0) 1 8 Try.underlying22 (by kernel_rfl) rfl (by decide) _ (0 + k) _ ho _ (l.length - k1) (c - k1) _ hlB (hrB.below hB) h1B (by unfold maxLen; omega) (by omega) hB.size
          refine ⟨v', w', h1, h2, bel_mod hB (grown_mod h3) (fun i hi e => ?_)⟩
          have := own_base' ho i e; omega)
        have HF := hid' (And.intro hres (And.intro hk1 hlt))
        clear hk1 hx hrA hrB hlA hlB h1A h1B hres
        go_wp2
        go_region_law (first
          | (refine step_append_ex2 rfl (.tmp 19) (.tmp 22) 22 22 rfl (.slice (some ⟨w.heap.size, 0, none⟩) 0 0) (.slice (some ad) k c) (by simp [Act.eval, Act.put]) (by simp [Act.eval, Act.put]) _ (HA1.out _ _ (by repeat (first | exact Dr.refl _ | apply Dr.step | apply Dr.stepd))) ?_; intro v1 w1 hw1)
          | (refine step_append_ex2 rfl (.tmp 23) (.tmp 27) 22 22 rfl v1 (.slice (cutA (some ad) k1 1 c) (l.length - k1) (c - k1)) (by simp [Act.eval, Act.put]) (by simp [Act.eval, Act.put]) _ (HA2.out _ _ _ _ hw1.out (by repeat (first | exact Dr.refl _ | apply Dr.step | apply Dr.stepd))) ?_; intro v2 w2 hw2))
        all_goals
          go_wp2
          go_ret2
          obtain ⟨ho2, hB2⟩ := hw2.out
          obtain ⟨hres, hk1, hlt⟩ := HF.out
          refine ⟨_, by rw [decide_eq_true HM.out]; rfl, hB2, .inl ⟨HM.out, ?_⟩⟩
          rw [HE.out, ← hres]
          rw [List.nil_append] at ho2
          have hlen : ((l.take k) ++ l.drop k1).length = 0 + k + (l.length - k1) := by simp; omega
          rw [hlen]; exact ho2
      · have HN2 : Hid (∀ j y, j < k + 1 → l[j]? = some y → y ≠ n) := fun j y hj hy => by
          by_cases e : j = k
          · subst e; rw [hx] at hy; injection hy with hy; subst hy; exact hxn
          · exact HN.out j y (by omega) hy
        have hne : (x == n) = false := by simpa using hxn
        clear hxn hx HN
        go_wp2
        go_round
        case rel => exact ⟨k + 1, by omega, by go_num, HN2⟩
        case measure => simp [intOf]; omega
    · have HM := hid' (show n ∉ l from fun hm => by
        obtain ⟨j, hj, e⟩ := List.mem_iff_getElem.1 hm
        exact HN.out j n (by omega) (by rw [List.getElem?_eq_getElem hj, e]) rfl)
      go_wp2
      go_ret2
      exact ⟨_, by rw [decide_eq_false HM.out]; rfl, bel_refl w, .inr ⟨HM.out, rfl⟩⟩
end Go.Proofs.Ytcgonoepndlofaa
