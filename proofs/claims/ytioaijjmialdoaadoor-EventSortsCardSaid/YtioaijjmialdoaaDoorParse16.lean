
/- Words as numbers to the base 16 (internal/strconv.ParseUint), walked. No condition. -/
import Derived.Test.YtioaijjmialdoaaDoorProg
import Derived.Laws.BitsAllLaws
import Derived.Test.YtioaijjmialdoaaDoorQuotePure
import Derived.Test.YtioaijjmialdoaaDoorOwnC
namespace Go.Proofs.YtioaijjmialdoaaDoor
set_option maxRecDepth 100000
set_option linter.unusedSimpArgs false
open Go.RowKit
set_option linter.unusedVariables false
set_option linter.unusedSimpArgs false

theorem or32 (c : UInt8) : bits .or .u8 (c.toNat : Int) 32 = ((c ||| 32).toNat : Int) := by
  have := u8_or_nat c.toNat 32 c.toNat_lt (by omega)
  rw [show (c ||| 32).toNat = c.toNat ||| 32 from by simp]
  exact this
theorem lower16 (c : UInt8) (w : World) : Calls Tryd.prog 78 #[.int .u8 (c.toNat : Int)] w fun e w' => e = .returned (.int .u8 ((c ||| 32).toNat : Int)) ∧ w = w' := by
  have h := or32 c
  have hl := (c ||| 32).toNat_lt
  go_enter Tryd.func78, Tryd.ntmps78
  go_wp2
  go_ret
  exact ⟨rfl, rfl⟩
def PuPost (mx : Nat) (l : List UInt8) (w : World) (e : Ending) (w' : World) : Prop :=
  (∃ n, puS mx l = some n ∧ e = .returned (.tuple #[.int .u64 (n : Int), .nilIface]) ∧ Below w.heap.size w w') ∨
  (∃ v k, puS mx l = none ∧ (k = 1 ∨ k = 2) ∧ e = .returned (.tuple #[.int .u64 v, .iface 106 (.int .i64 k)]) ∧ Below w.heap.size w w')
theorem PuPost.yes {mx : Nat} {l : List UInt8} {w w' : World} {n : Nat} (h : puS mx l = some n) (hb : Below w.heap.size w w') : PuPost mx l w (.returned (.tuple #[.int .u64 (n : Int), .nilIface])) w' := .inl ⟨n, h, rfl, hb⟩
theorem PuPost.no {mx : Nat} {l : List UInt8} {w w' : World} {v k : Int} (h : puS mx l = none) (hk : k = 1 ∨ k = 2) (hb : Below w.heap.size w w') : PuPost mx l w (.returned (.tuple #[.int .u64 v, .iface 106 (.int .i64 k)])) w' := .inr ⟨v, k, h, hk, rfl, hb⟩
theorem puS_at {mx : Nat} {l : List UInt8} {k m : Nat} {c : UInt8} (hp : pu mx 0 (l.take k) = some m) (hc : l[k]? = some c) : puS mx l = pu mx m (c :: l.drop (k + 1)) := by
  have hl : l = l.take k ++ c :: l.drop (k + 1) := by
    have hk := (List.getElem?_eq_some_iff.1 hc).1
    have he := (List.getElem?_eq_some_iff.1 hc).2
    conv => lhs; rw [← List.take_append_drop k l, List.drop_eq_getElem_cons hk, he]
  unfold puS
  rw [if_neg (fun e => by rw [e] at hc; simp at hc)]
  conv => lhs; rw [hl]
  rw [pu_app, hp]
  rfl
theorem pu_step {mx : Nat} {l : List UInt8} {k m : Nat} {c : UInt8} (hp : pu mx 0 (l.take k) = some m) (hc : l[k]? = some c) {d : Nat} (hd : hexV c = some d) (hm : ¬ mx < m * 16 + d) : pu mx 0 (l.take (k + 1)) = some (m * 16 + d) := by
  rw [take_snoc' hc, pu_app, hp]
  simp only [Option.bind_some, pu, hd]
  rw [if_neg hm]
theorem hexV_95 {c : UInt8} {d : Nat} (h : hexV c = some d) : ((c.toNat : Int) == 95) = false := by
  rw [beq_eq_false_iff_ne]
  intro e
  have hc : c = 95 := by
    have h1 : c.toNat = 95 := by omega
    exact UInt8.toNat_inj.1 (by rw [h1]; rfl)
  subst hc
  rw [show hexV 95 = none by decide] at h
  cases h
def bL16 (s : ByteArray) : List UInt8 := s.data.toList
theorem bL16_len (s : ByteArray) : (bL16 s).length = s.size := by unfold bL16; rw [Array.length_toList]; rfl
set_option maxHeartbeats 4000000 in
theorem parse16_8 (s : ByteArray) (w : World) (hs : s.size ≤ 200000) :
    Calls Tryd.prog 65 #[.string s, .int .i64 16, .int .i64 8] w (PuPost 255 (bL16 s) w) := by
  have hs2 : s.size ≤ maxLen := by unfold maxLen; omega
  have hs' : s.size ≤ 9223372036854775807 := by omega
  by_cases he : s.size = 0
  · have hl : bL16 s = [] := List.eq_nil_of_length_eq_zero (by rw [bL16_len]; exact he)
    have hn : puS 255 (bL16 s) = none := by rw [hl]; rfl
    obtain rfl : s = ⟨#[]⟩ := by
      apply ByteArray.ext
      apply Array.ext'
      exact hl
    have HN := hid' hn
    clear hn hl he
    have hb0 := bel_refl w
    go_enter Tryd.func65, Tryd.ntmps65
    go_wp2
    go_ret2
    exact .no HN.out (.inr rfl) hb0
  have hpos : 0 < s.size := by omega
  have hnl : s.toList.isEmpty = false := by
    cases h : s.toList with
    | nil =>
      exfalso
      have h2 : (bL16 s).length = 0 := by
        unfold bL16
        rw [← ByteArray.toList_eq, h]; rfl
      rw [bL16_len] at h2
      exact he h2
    | cons a b => rfl
  have HO := hid' (OwnC.bytes w 5 s hs2)
  have HB := hid' (bytesWorld_below w 5 s)
  have hconv : (convert 9 72 (.string s)).run Tryd.prog w = .ok (.slice (some ⟨w.heap.size, 0, none⟩) s.size (grownCap w s.size 0 5)) (Lib.bytesWorld w 5 s) := Lib.run_convert_string_bytes (u := .string) w 9 72 5 s (by kernel_rfl) (by kernel_rfl) (by kernel_rfl)
  go_enter Tryd.func65, Tryd.ntmps65
  go_wp2
  obtain ⟨hol, hom, hrows⟩ := HO.out
  have HC := hid' (fun (j : Nat) (c : UInt8) (hc : (bL16 s)[j]? = some c) => (show (Lib.bytesWorld w 5 s).cell? ⟨w.heap.size, j, none⟩ = some (.int .u8 (c.toNat : Int)) from by
    rcases hrows with ⟨h1, _⟩ | ⟨g, cap, h1, _, _, _, h2, _⟩
    · cases h1
    · injection h1 with h1
      injection h1 with h1
      injection h1 with h1
      subst h1
      exact h2 j _ (by rw [List.getElem?_map]; unfold bL16 at hc; rw [hc]; rfl)))
  have HN := hid' (bL16_len s)
  generalize hcap : grownCap w s.size 0 5 = cap at *
  generalize hW1 : Lib.bytesWorld w 5 s = w1 at *
  clear hol hom hrows HO hconv hcap hW1 hnl he
  go_loop [12, 13, 101] (fun v12 v13 v101 => ∃ k m : Nat, k ≤ s.size ∧ v12 = .bool false ∧ v101 = .int .i64 (k : Int) ∧ v13 = .int .u64 (m : Int) ∧ pu 255 0 ((bL16 s).take k) = some m) (fun _ _ v101 => s.size - (intOf v101).toNat)
  case atStart => exact ⟨0, 0, Nat.zero_le _, rfl, rfl, rfl, rfl⟩
  case round =>
    obtain ⟨k, m, hk, rfl, rfl, rfl, hpu⟩ := hrel
    have hm := pu_le (Nat.zero_le _) hpu
    have hcut : decide ((1152921504606846976 : Int) ≤ (m : Int)) = false := by rw [decide_eq_false_iff_not]; omega
    have HPU := hid' hpu
    clear hpu
    by_cases hlt : k < s.size
    · obtain ⟨c, hc⟩ : ∃ c, (bL16 s)[k]? = some c := ⟨_, List.getElem?_eq_getElem (by rw [HN.out]; exact hlt)⟩
      have hcell := HC.out k c hc
      have hat := puS_at HPU.out hc
      have hclt := c.toNat_lt
      have hllt := (c ||| 32).toNat_lt
      have HLOW := hid' (fun W => lower16 c W)
      have HCC := hid' hc
      cases hv : hexV c with
      | none =>
        have hn : puS 255 (bL16 s) = none := by rw [hat]; simp only [pu, hv]
        have HNO := hid' hn
        unfold hexV at hv
        have hnd : ¬ (48 ≤ c.toNat ∧ c.toNat ≤ 57) := fun h => by rw [if_pos h] at hv; cases hv
        rw [if_neg hnd] at hv
        have hnl : ¬ (97 ≤ (c ||| 32).toNat ∧ (c ||| 32).toNat ≤ 102) := fun h => by rw [if_pos h] at hv; cases hv
        clear hn hat hc hv
        generalize c.toNat = g at *
        generalize (c ||| 32).toNat = lc at *
        obtain ⟨b95, h95⟩ : ∃ b95, ((g : Int) == 95) = b95 := ⟨_, rfl⟩
        go_wp2_with (go_at_call 78; refine (HLOW.out _).mono ?_; rintro e w' ⟨rfl, rfl⟩)
        all_goals first
          | (exfalso; omega)
          | (go_ret2; exact .no HNO.out (.inr rfl) HB.out)
      | some d =>
        have hd16 := hexV_lt hv
        have hst := fun h => pu_step HPU.out hc hv h
        have hov : 255 < m * 16 + d → puS 255 (bL16 s) = none := fun h => by rw [hat]; simp only [pu, hv]; rw [if_pos h]
        have HST := hid' hst
        have HOV := hid' hov
        have hvv : (48 ≤ c.toNat ∧ c.toNat ≤ 57 ∧ d = c.toNat - 48) ∨ (¬ (48 ≤ c.toNat ∧ c.toNat ≤ 57) ∧ 97 ≤ (c ||| 32).toNat ∧ (c ||| 32).toNat ≤ 102 ∧ d = (c ||| 32).toNat - 87) := by
          unfold hexV at hv
          split at hv
          · rename_i h; exact .inl ⟨h.1, h.2, by have := Option.some.inj hv; omega⟩
          · rename_i h
            split at hv
            · rename_i h'; exact .inr ⟨h, h'.1, h'.2, by have := Option.some.inj hv; omega⟩
            · cases hv
        have h95 := hexV_95 hv
        clear hst hov hat hc hv
        generalize c.toNat = g at *
        generalize (c ||| 32).toNat = lc at *
        by_cases hbig : 255 < m * 16 + d
        · have HNO := hid' (HOV.out hbig)
          rcases hvv with ⟨h1, h2, h3⟩ | ⟨h0, h1, h2, h3⟩
          all_goals
            subst h3
            go_wp2_with (go_at_call 78; refine (HLOW.out _).mono ?_; rintro e w' ⟨rfl, rfl⟩)
            all_goals first
              | (exfalso; omega)
              | (go_ret2; exact .no HNO.out (.inl rfl) HB.out)
        · have HOK := hid' (HST.out hbig)
          rcases hvv with ⟨h1, h2, h3⟩ | ⟨h0, h1, h2, h3⟩
          all_goals
            subst h3
            go_wp2_with (go_at_call 78; refine (HLOW.out _).mono ?_; rintro e w' ⟨rfl, rfl⟩)
            all_goals first
              | (exfalso; omega)
              | (go_round
                 case rel => exact ⟨k + 1, _, by omega, rfl, by go_num, by go_num, HOK.out⟩
                 case measure => simp [intOf]; omega)
    · have hall : (bL16 s).take k = bL16 s := List.take_of_length_le (by rw [HN.out]; omega)
      have hy : puS 255 (bL16 s) = some m := by
        unfold puS
        rw [if_neg (fun e => by have := HN.out; rw [e] at this; simp at this; omega)]
        have := HPU.out
        rwa [hall] at this
      have HY := hid' hy
      clear hall hy
      go_wp2
      go_ret2
      exact .yes HY.out HB.out
set_option maxHeartbeats 4000000 in
theorem parse16_31 (s : ByteArray) (w : World) (hs : s.size ≤ 200000) :
    Calls Tryd.prog 65 #[.string s, .int .i64 16, .int .i64 31] w (PuPost 2147483647 (bL16 s) w) := by
  have hs2 : s.size ≤ maxLen := by unfold maxLen; omega
  have hs' : s.size ≤ 9223372036854775807 := by omega
  by_cases he : s.size = 0
  · have hl : bL16 s = [] := List.eq_nil_of_length_eq_zero (by rw [bL16_len]; exact he)
    have hn : puS 2147483647 (bL16 s) = none := by rw [hl]; rfl
    obtain rfl : s = ⟨#[]⟩ := by
      apply ByteArray.ext
      apply Array.ext'
      exact hl
    have HN := hid' hn
    clear hn hl he
    have hb0 := bel_refl w
    go_enter Tryd.func65, Tryd.ntmps65
    go_wp2
    go_ret2
    exact .no HN.out (.inr rfl) hb0
  have hpos : 0 < s.size := by omega
  have hnl : s.toList.isEmpty = false := by
    cases h : s.toList with
    | nil =>
      exfalso
      have h2 : (bL16 s).length = 0 := by
        unfold bL16
        rw [← ByteArray.toList_eq, h]; rfl
      rw [bL16_len] at h2
      exact he h2
    | cons a b => rfl
  have HO := hid' (OwnC.bytes w 5 s hs2)
  have HB := hid' (bytesWorld_below w 5 s)
  have hconv : (convert 9 72 (.string s)).run Tryd.prog w = .ok (.slice (some ⟨w.heap.size, 0, none⟩) s.size (grownCap w s.size 0 5)) (Lib.bytesWorld w 5 s) := Lib.run_convert_string_bytes (u := .string) w 9 72 5 s (by kernel_rfl) (by kernel_rfl) (by kernel_rfl)
  go_enter Tryd.func65, Tryd.ntmps65
  go_wp2
  obtain ⟨hol, hom, hrows⟩ := HO.out
  have HC := hid' (fun (j : Nat) (c : UInt8) (hc : (bL16 s)[j]? = some c) => (show (Lib.bytesWorld w 5 s).cell? ⟨w.heap.size, j, none⟩ = some (.int .u8 (c.toNat : Int)) from by
    rcases hrows with ⟨h1, _⟩ | ⟨g, cap, h1, _, _, _, h2, _⟩
    · cases h1
    · injection h1 with h1
      injection h1 with h1
      injection h1 with h1
      subst h1
      exact h2 j _ (by rw [List.getElem?_map]; unfold bL16 at hc; rw [hc]; rfl)))
  have HN := hid' (bL16_len s)
  generalize hcap : grownCap w s.size 0 5 = cap at *
  generalize hW1 : Lib.bytesWorld w 5 s = w1 at *
  clear hol hom hrows HO hconv hcap hW1 hnl he
  go_loop [12, 13, 101] (fun v12 v13 v101 => ∃ k m : Nat, k ≤ s.size ∧ v12 = .bool false ∧ v101 = .int .i64 (k : Int) ∧ v13 = .int .u64 (m : Int) ∧ pu 2147483647 0 ((bL16 s).take k) = some m) (fun _ _ v101 => s.size - (intOf v101).toNat)
  case atStart => exact ⟨0, 0, Nat.zero_le _, rfl, rfl, rfl, rfl⟩
  case round =>
    obtain ⟨k, m, hk, rfl, rfl, rfl, hpu⟩ := hrel
    have hm := pu_le (Nat.zero_le _) hpu
    have hcut : decide ((1152921504606846976 : Int) ≤ (m : Int)) = false := by rw [decide_eq_false_iff_not]; omega
    have HPU := hid' hpu
    clear hpu
    by_cases hlt : k < s.size
    · obtain ⟨c, hc⟩ : ∃ c, (bL16 s)[k]? = some c := ⟨_, List.getElem?_eq_getElem (by rw [HN.out]; exact hlt)⟩
      have hcell := HC.out k c hc
      have hat := puS_at HPU.out hc
      have hclt := c.toNat_lt
      have hllt := (c ||| 32).toNat_lt
      have HLOW := hid' (fun W => lower16 c W)
      have HCC := hid' hc
      cases hv : hexV c with
      | none =>
        have hn : puS 2147483647 (bL16 s) = none := by rw [hat]; simp only [pu, hv]
        have HNO := hid' hn
        unfold hexV at hv
        have hnd : ¬ (48 ≤ c.toNat ∧ c.toNat ≤ 57) := fun h => by rw [if_pos h] at hv; cases hv
        rw [if_neg hnd] at hv
        have hnl : ¬ (97 ≤ (c ||| 32).toNat ∧ (c ||| 32).toNat ≤ 102) := fun h => by rw [if_pos h] at hv; cases hv
        clear hn hat hc hv
        generalize c.toNat = g at *
        generalize (c ||| 32).toNat = lc at *
        obtain ⟨b95, h95⟩ : ∃ b95, ((g : Int) == 95) = b95 := ⟨_, rfl⟩
        go_wp2_with (go_at_call 78; refine (HLOW.out _).mono ?_; rintro e w' ⟨rfl, rfl⟩)
        all_goals first
          | (exfalso; omega)
          | (go_ret2; exact .no HNO.out (.inr rfl) HB.out)
      | some d =>
        have hd16 := hexV_lt hv
        have hst := fun h => pu_step HPU.out hc hv h
        have hov : 2147483647 < m * 16 + d → puS 2147483647 (bL16 s) = none := fun h => by rw [hat]; simp only [pu, hv]; rw [if_pos h]
        have HST := hid' hst
        have HOV := hid' hov
        have hvv : (48 ≤ c.toNat ∧ c.toNat ≤ 57 ∧ d = c.toNat - 48) ∨ (¬ (48 ≤ c.toNat ∧ c.toNat ≤ 57) ∧ 97 ≤ (c ||| 32).toNat ∧ (c ||| 32).toNat ≤ 102 ∧ d = (c ||| 32).toNat - 87) := by
          unfold hexV at hv
          split at hv
          · rename_i h; exact .inl ⟨h.1, h.2, by have := Option.some.inj hv; omega⟩
          · rename_i h
            split at hv
            · rename_i h'; exact .inr ⟨h, h'.1, h'.2, by have := Option.some.inj hv; omega⟩
            · cases hv
        have h95 := hexV_95 hv
        clear hst hov hat hc hv
        generalize c.toNat = g at *
        generalize (c ||| 32).toNat = lc at *
        by_cases hbig : 2147483647 < m * 16 + d
        · have HNO := hid' (HOV.out hbig)
          rcases hvv with ⟨h1, h2, h3⟩ | ⟨h0, h1, h2, h3⟩
          all_goals
            subst h3
            go_wp2_with (go_at_call 78; refine (HLOW.out _).mono ?_; rintro e w' ⟨rfl, rfl⟩)
            all_goals first
              | (exfalso; omega)
              | (go_ret2; exact .no HNO.out (.inl rfl) HB.out)
        · have HOK := hid' (HST.out hbig)
          rcases hvv with ⟨h1, h2, h3⟩ | ⟨h0, h1, h2, h3⟩
          all_goals
            subst h3
            go_wp2_with (go_at_call 78; refine (HLOW.out _).mono ?_; rintro e w' ⟨rfl, rfl⟩)
            all_goals first
              | (exfalso; omega)
              | (go_round
                 case rel => exact ⟨k + 1, _, by omega, rfl, by go_num, by go_num, HOK.out⟩
                 case measure => simp [intOf]; omega)
    · have hall : (bL16 s).take k = bL16 s := List.take_of_length_le (by rw [HN.out]; omega)
      have hy : puS 2147483647 (bL16 s) = some m := by
        unfold puS
        rw [if_neg (fun e => by have := HN.out; rw [e] at this; simp at this; omega)]
        have := HPU.out
        rwa [hall] at this
      have HY := hid' hy
      clear hall hy
      go_wp2
      go_ret2
      exact .yes HY.out HB.out
end Go.Proofs.YtioaijjmialdoaaDoor
