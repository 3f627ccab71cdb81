
/- A log's bytes as records (log.Parse), walked. No condition. -/
import Derived.Test.YteifpdpppndipaaLogPure
import Derived.Test.YteifpdpppndipaaFrameE
import Derived.Test.YteifpdpppndipaaOwn
namespace Go.Proofs.Yteifpdpppndipaa
set_option maxRecDepth 100000
set_option linter.unusedSimpArgs false
open Go.RowKit
set_option linter.unusedVariables false
set_option linter.unusedSimpArgs false

set_option maxHeartbeats 4000000 in
theorem log_Parse (s : ByteArray) (w : World) (hs : s.size ≤ 200000) :
    Calls Try.prog 17 #[.string s] w fun e w' => ∃ k v, e = .returned (.tuple #[v, .int .i64 ((pSt s k).2 : Int), .int .i64 (pErr s (pSt s k).2)]) ∧ ¬ pLive s (pSt s k).2 ∧ (pSt s k).1.length = k ∧ w'.ownsRow w.heap.size 40 3 v k (recC (pSt s k).1) ∧ Below w.heap.size w w' := by
  have hs' : s.size ≤ 9223372036854775807 := by omega
  go_enter Try.func17, Try.ntmps17
  go_wp2
  go_loopw [2, 3] (fun v2 v3 wr => ∃ k : Nat, k ≤ (pSt s k).2 ∧ v3 = .int .i64 ((pSt s k).2 : Int) ∧ (pSt s k).1.length = k ∧ wr.ownsRow w.heap.size 40 3 v2 k (recC (pSt s k).1) ∧ Below w.heap.size w wr) (fun _ v3 _ => s.size - (intOf v3).toNat)
  case atStart => exact ⟨0, Nat.zero_le _, rfl, rfl, own_nil' _ _ _ _, bel_refl _⟩
  case round =>
    obtain ⟨k, hk, rfl, hlen, hO, hL⟩ := hrel
    have hle := pSt_le s (by omega) k
    by_cases hlt : (pSt s k).2 < s.size
    · obtain ⟨⟨⟨kd, t, x⟩, z, er⟩, hq⟩ : ∃ q, q = fGet (s.extract (pSt s k).2 s.size) := ⟨_, rfl⟩
      have HG := hid' (fun w => frame_Get (s.extract (pSt s k).2 s.size) w (by rw [ByteArray.size_extract]; omega))
      rw [← hq] at HG
      unfold recV at HG
      simp only at HG
      obtain ⟨V, hV⟩ : ∃ V, V = (pSt s k).2 := ⟨_, rfl⟩
      have HO := hid' hO
      have HL := hid' hL
      have HV := hid' hV
      have HQ := hid' hq
      have HLEN := hid' hlen
      rw [← hV] at hlt hle hk HG ⊢
      have j1 : (V : Int) ≤ (s.size : Int) := by omega
      have j2 : (V : Int) < (s.size : Int) := by omega
      clear hO hL hV hq hlen
      by_cases he : er = 0
      · have hlive : pLive s (pSt s k).2 := ⟨by rw [← HV.out]; exact hlt, by rw [← HQ.out]; exact he⟩
        obtain ⟨r, n, h1, h0, h2, h3, -⟩ := pStep_live hlive (by omega)
        rw [← HQ.out] at h1
        injection h1 with h1a h1b
        injection h1b with h1b h1c
        subst h1a h1b h1c
        rw [← HV.out] at h2 h3
        have H3 := hid' (show pSt s (k + 1) = _ from h3)
        obtain ⟨m, hm⟩ : ∃ m, m = V + n := ⟨_, rfl⟩
        have i1 : (V : Int) + (n : Int) = (m : Int) := by omega
        rw [← hm] at h2 H3
        have hkm : k + 1 ≤ m := by omega
        clear hlive h3 he hm
        go_wp2_with fail
        refine (HG.out _).mono ?_
        rintro e w1 ⟨rfl, hB1⟩
        have hO1 := own_below HO.out hB1
        have hb1 := bel_then HL.out hB1
        have hO2 := hid' (hO1.alloc (.cells #[.int .i64 kd, .int .i64 t, .string x] 40))
        have hb2 := bel_alloc hb1 (.cells #[.int .i64 kd, .int .i64 t, .string x] 40)
        have HB2 := hid' hb2
        have hs3 : (w1.alloc (.cells #[.int .i64 kd, .int .i64 t, .string x] 40)).heap.size = w1.heap.size + 1 := by simp
        have hbase := hb2.size
        have hone := hid' (fRec_one (kd, t, x))
        have hk32 : (k + 1) * 32 ≤ 140737488355328 := by omega
        clear hO1 hb1 hb2 hB1
        go_wp2_with (at_builtin; (refine ap_cells w.heap.size rfl (.tmp 25) (.tmp 27) 36 40 (.agg #[.int .i64 0, .int .i64 0, .string ⟨#[]⟩]) 3 32 rfl (by kernel_rfl) (by kernel_rfl) rfl (by decide) (by decide) _ k (recC (pSt s k).1) [.int .i64 kd, .int .i64 t, .string x] rfl (by rw [hs3]; rfl) rfl hone.out hO2.out hbase hk32 ?_); intro v1 w3 hown hg hat)
        go_roundw
        case rel =>
          have hg2 : (w1.alloc (.cells #[.int .i64 kd, .int .i64 t, .string x] 40)).grownBy w3 u2.ownBlock := hg
          exact ⟨k + 1, by rw [H3.out]; exact hkm, by rw [H3.out] <;> first | rfl | go_num, by rw [H3.out]; simp [HLEN.out], by rw [H3.out, recC_snoc]; exact hown, bel_mod HB2.out (Mod.of_grown hg2) (fun i hi h => by have := own_base' hO2.out i h; omega)⟩
        case measure => first | (simp [intOf]; done) | (simp [intOf]; omega)
      · have e1 : (er != 0) = true := by simpa using he
        have hlive : ¬ pLive s (pSt s k).2 := fun h => he (by have := h.2; rw [← HQ.out] at this; exact this)
        have hpe : pErr s (pSt s k).2 = er := by unfold pErr; rw [← HV.out, if_pos hlt, HV.out, ← HQ.out]
        have HLV := hid' hlive
        have HPE := hid' hpe
        clear hlive hpe he
        go_wp2_with fail
        refine (HG.out _).mono ?_
        rintro e w1 ⟨rfl, hB1⟩
        have hO1 := hid' ((own_below HO.out hB1).alloc (.cells #[.int .i64 kd, .int .i64 t, .string x] 40))
        have hb1 := hid' (bel_alloc (bel_then HL.out hB1) (.cells #[.int .i64 kd, .int .i64 t, .string x] 40))
        clear hB1
        go_wp2
        go_ret3
        exact ⟨k, u2, by rw [HPE.out, ← HV.out] <;> rfl, HLV.out, HLEN.out, hO1.out, hb1.out⟩
    · have hlive : ¬ pLive s (pSt s k).2 := fun h => hlt h.1
      have hpe : pErr s (pSt s k).2 = 0 := by unfold pErr; rw [if_neg hlt]
      have HLV := hid' hlive
      have HPE := hid' hpe
      have HO := hid' hO
      have HL := hid' hL
      have HLEN := hid' hlen
      clear hlive hpe hO hL hlen
      go_wp2
      go_ret3
      exact ⟨k, u2, by rw [HPE.out] <;> rfl, HLV.out, HLEN.out, HO.out, HL.out⟩
end Go.Proofs.Yteifpdpppndipaa
