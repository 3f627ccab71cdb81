
/- What the package log says of itself; which records any bytes begin with: the law, walked. No condition. -/
import Derived.Test.YtjdjpljjahnhjaaLogBuild
import Derived.Test.YtjdjpljjahnhjaaRefLog
import Derived.Test.YtjdjpljjahnhjaaOpen
namespace Go.Proofs.Ytjdjpljjahnhjaa
set_option maxRecDepth 100000
set_option linter.unusedSimpArgs false
open Go.RowKit
set_option linter.unusedVariables false
set_option linter.unusedSimpArgs false

theorem rOk_text {r : Rec} (h : rOk r) : r.2.2.size ≤ 65536 := by
  have h3 : (recBody r).size ≤ 65536 := by
    have hc := h.1
    unfold fCheck at hc
    split at hc
    · split at hc
      · cases hc
      · omega
    · cases hc
  have := recBody_size r
  omega
theorem sp06 : rOk (1, 4, ⟨#[]⟩) ∧ (bCat [(1, 4, ⟨#[]⟩)]).size = 7 := by
  have hI : I64 (1, 4, (⟨#[]⟩ : ByteArray)).2.1 := by show I64 4; unfold I64; decide
  have hv : (vput (vfold 4)).length = 1 := by rw [show vfold 4 = 8 from rfl, vput_lt (by decide)]; rfl
  have hb : (recBody (1, 4, ⟨#[]⟩)).size = 2 := by rw [recBody_size]; show 1 + (vput (vfold 4)).length + 0 = 2; omega
  have hc : fCheck (1, 4, ⟨#[]⟩) = 0 := by unfold fCheck; rw [if_pos (by rfl), if_neg (by omega)]
  refine ⟨⟨hc, hI⟩, ?_⟩
  show (fFull (1, 4, ⟨#[]⟩) ++ ⟨#[]⟩).size = 7
  rw [size_app, fFull_size, hb, vput_lt (by decide)]
  rfl
theorem sp06_err (S : ByteArray) (v : Nat) (h : v = S.size) : pErr (S ++ ⟨#[9]⟩) v = 1 ∧ ¬ pLive (S ++ ⟨#[9]⟩) v := by
  subst h
  have hg : fGet ⟨#[9]⟩ = (zRec, 0, 1) := by
    unfold fGet
    rw [show vget (bl ⟨#[9]⟩) = (9, 1, 0) from by decide]
    rfl
  have he : (⟨#[9]⟩ : ByteArray).extract 0 (⟨#[9]⟩ : ByteArray).size = ⟨#[9]⟩ := bl_inj (by rw [bl_ext]; rfl)
  have h1 := pErr_shift S ⟨#[9]⟩ 0
  have h2 := pLive_shift S ⟨#[9]⟩ 0
  rw [Nat.add_zero] at h1 h2
  rw [h1, h2]
  refine ⟨?_, fun h => ?_⟩
  · unfold pErr; rw [if_pos (by decide), he, hg]
  · have := h.2; rw [he, hg] at this; cases this
theorem one_lens {s : ByteArray} {k j : Nat} (h : ¬ pLive s (pSt s k).2) (h' : ¬ pLive s (pSt s j).2) (hk : (pSt s k).1.length = k) (hj : (pSt s j).1.length = j) : k = j := by
  have := pSt_one h h'
  rw [← hk, ← hj, this]
theorem recV_cells (r : Rec) : recV r = .agg (fRec r).toArray := rfl
/-- A literal row of one record, just made. -/
theorem rds_new1 (w : World) (r : Rec) : RdS (w.alloc (.cells #[.int .i64 r.1, .int .i64 r.2.1, .string r.2.2] 37)) (some ⟨w.heap.size, 0, none⟩) 3 fRec [r] := by
  apply rd_recS
  exact Blk.rd (Blk.new_ w 37 _) rfl
set_option maxHeartbeats 4000000 in
theorem speaks06 (w : World) : Calls Try.prog 29 #[] w fun e w' => e = .returned (.bool true) ∧ Below w.heap.size w w' := by
  obtain ⟨hok, h7⟩ := sp06
  obtain ⟨r, hr⟩ : ∃ r : Rec, r = (1, 4, ⟨#[]⟩) := ⟨_, rfl⟩
  rw [← hr] at hok h7
  have hb := log_Build (some ⟨w.heap.size, 0, none⟩) 1 [r] (w.alloc (.cells #[.int .i64 r.1, .int .i64 r.2.1, .string r.2.2] 37)) (rds_new1 w r) (by simp) (fun x hx => by rw [List.mem_singleton] at hx; subst hx; exact ⟨hok.2, Nat.le_trans (rOk_text hok) (by omega)⟩)
  have he : bErr [r] = 0 := bErr_ok (fun x hx => by rw [List.mem_singleton] at hx; subst hx; exact hok.1)
  rw [he, show bEnc [r] = bCat [r] from by unfold bEnc; rw [if_pos he]] at hb
  have hst := pSt_built [r] ⟨#[9]⟩ (fun x hx => by rw [List.mem_singleton] at hx; subst hx; exact hok)
  obtain ⟨S, hS⟩ : ∃ S, S = bCat [r] := ⟨_, rfl⟩
  rw [← hS] at hb h7 hst
  obtain ⟨e1, e2⟩ := sp06_err S S.size rfl
  obtain ⟨T, hT⟩ : ∃ T, T = S ++ ⟨#[9]⟩ := ⟨_, rfl⟩
  have hT8 : T.size = 8 := by rw [hT, size_app, h7]; rfl
  rw [← hT] at hst e1 e2
  have hst : pSt T 1 = ([r], 7) := by rw [← h7]; exact hst
  rw [h7] at e1 e2
  subst hr
  have HBu := hid' hb
  have HST := hid' hst
  have HE1 := hid' e1
  have HE2 := hid' e2
  have HTT := hid' hT
  have hj : S.size + 1 ≤ 9223372036854775807 := by omega
  have hTs : T.size ≤ 200000 := by omega
  have HP := hid' (fun W => log_Parse T W hTs)
  rw [hT] at HP
  have h7' : S.size = 7 := h7
  have HL0 := hid' (bel_alloc (bel_refl w) (.cells #[.int .i64 1, .int .i64 4, .string ⟨#[]⟩] 37))
  clear hb hst e1 e2 hT hS he h7 hT8 hTs hok
  go_enter Try.func29, Try.ntmps29
  go_wp2_with fail
  refine (HBu.out).mono ?_
  rintro e w2 ⟨rfl, hB2⟩
  go_wp2_with fail
  refine (HP.out _).mono ?_
  rintro e w3 ⟨k, v, rfl, hend, hlen, hO, hB3⟩
  rw [← HTT.out] at hend hlen hO ⊢
  have h1 := pSt_one hend (j := 1) (by rw [HST.out]; exact HE2.out)
  rw [h1, HST.out] at hlen hO ⊢
  have hk1 : k = 1 := by simpa using hlen.symm
  subst hk1
  obtain ⟨A, cp, rfl, -, -, hrd⟩ := own_rd hO
  rw [HE1.out]
  have hrs := rd_recS hrd
  have HTI := hid' (log_Times A cp [(1, 4, ⟨#[]⟩)] w3 hrs (by simp))
  obtain ⟨ad, rfl, a0, a1, a2⟩ := hrs.rec (j := 0) rfl
  have HL3 := hid' (bel_then (bel_then HL0.out hB2) hB3)
  have hz : ad.add (0 * 3) = ad := by simp [Addr.add]
  rw [hz] at a1
  clear h1 hend hlen hO hrd hrs hst hz a0 a2
  go_wp2_with (go_at_call 34; refine (HTI.out).mono ?_; rintro e w4 ⟨v4, rfl, hO4, hB4⟩; obtain ⟨A4, c4, rfl, -, -, -⟩ := own_rd hO4)
  go_ret
  exact ⟨rfl, bel_then HL3.out hB4⟩
set_option maxHeartbeats 4000000 in
theorem logParses (s : ByteArray) (w : World) (hs : s.size ≤ maxLen) :
    Calls Try.prog 7 #[.string s] w fun e w' => e = .returned (.bool true) ∧ Below w.heap.size w w' := by
  have hs' : s.size ≤ 9223372036854775807 := hs
  clear hs
  by_cases hbig : 1000 < s.size
  · go_enter Try.func7, Try.ntmps7
    go_wp2_with (go_at_call 29; refine (speaks06 _).mono ?_; rintro e w1 ⟨rfl, hB1⟩)
    go_ret
    exact ⟨rfl, hB1⟩
  go_enter Try.func7, Try.ntmps7
  go_wp2_with (go_at_call 29; refine (speaks06 _).mono ?_; rintro e w1 ⟨rfl, hB1⟩)
  refine (log_Parse s _ (by omega)).mono ?_
  rintro e w2 ⟨k, v, rfl, hend, hlen, hO, hB2⟩
  obtain ⟨A, cp, rfl, -, -, hrd⟩ := own_rd hO
  go_wp2_with fail
  refine (ref06_Parse s _ (by omega)).mono ?_
  rintro e w3 ⟨k', v', rfl, hend', hlen', hO', hB3⟩
  obtain rfl := one_lens hend hend' hlen hlen'
  obtain ⟨A', cp', rfl, -, -, hrd'⟩ := own_rd hO'
  obtain ⟨hcat, hoks⟩ := pSt_cat s (by omega) k
  have hvle := pSt_le s (by omega) k
  have hkle : k ≤ 100000 := by
    have : ∀ j, (pSt s j).1.length ≤ (pSt s j).2 := by
      intro j
      induction j with
      | zero => exact Nat.zero_le _
      | succ j ih =>
        show (pStep s (pSt s j)).1.length ≤ (pStep s (pSt s j)).2
        by_cases h : pLive s (pSt s j).2
        · obtain ⟨r, n, _, h0, _, h2, _⟩ := pStep_live h (by omega)
          rw [h2]; simp only [List.length_append, List.length_singleton]; omega
        · rw [pStep_stay h]; exact ih
    have := this k
    omega
  obtain ⟨L, hL⟩ : ∃ L, L = (pSt s k).1 := ⟨_, rfl⟩
  obtain ⟨V, hV⟩ : ∃ V, V = (pSt s k).2 := ⟨_, rfl⟩
  rw [← hL] at hcat hoks hrd hrd' hlen
  rw [← hV] at hcat hvle
  obtain ⟨er, her⟩ : ∃ er, er = pErr s V := ⟨_, rfl⟩
  rw [← hV, ← her]
  have herr := bErr_ok (l := L) (fun r hr => (hoks r hr).1)
  have henc : bEnc L = s.extract 0 V := by unfold bEnc; rw [if_pos herr, hcat]
  have hb3 := bel_alloc hB3 (.cells #[.slice A' k cp', .int .i64 (V : Int), .int .i64 er] 55)
  have HR := hid' (rd_recS (hrd.below hb3))
  have HR' := hid' (rd_recS (hrd'.below (bel_alloc (bel_refl w3) (.cells #[.slice A' k cp', .int .i64 (V : Int), .int .i64 er] 55))))
  have HK := hid' (Blk.new_ w3 55 #[.slice A' k cp', .int .i64 (V : Int), .int .i64 er])
  have HBu := hid' (fun W => log_Build A cp L W)
  have HSa := hid' (fun W => ref05_Same A A' cp cp' L L W)
  rw [hlen] at HBu HSa
  rw [sameR_self] at HSa
  rw [herr, henc] at HBu
  have HT := hid' (show ∀ r ∈ L, I64 r.2.1 ∧ r.2.2.size ≤ 200000 from fun r hr => ⟨(hoks r hr).2, Nat.le_trans (rOk_text (hoks r hr)) (by omega)⟩)
  have HL3 := hid' (bel_then hB1 (bel_then hB2 hb3))
  clear hB1 hB2 hB3 hb3 hend hend' hlen hlen' hO hO' hrd hrd' hcat hoks herr henc hL hV her
  have hVs : (V : Int) ≤ (s.size : Int) := by omega
  go_wp2_with fail
  refine (HBu.out _ HR.out hkle HT.out).mono ?_
  rintro e w4 ⟨rfl, hB4⟩
  have HK4 := hid' (HK.out.below hB4)
  have HR4 := hid' (HR.out.below hB4)
  have HR4' := hid' (HR'.out.below hB4)
  have c0 : w4.cell? ⟨w3.heap.size, 0, none⟩ = some (.slice A' k cp') := by simpa using HK4.out.cell 0
  go_wp2_with (go_at_call 33; refine (HSa.out _ HR4.out HR4'.out (by omega) (by omega)).mono ?_; rintro e w5 ⟨rfl, hD5⟩; have HK5 := hid' (HK4.out.below hD5.below); have d1 : w5.cell? ⟨w3.heap.size, 1, none⟩ = some (.int .i64 (V : Int)) := (by simpa using HK5.out.cell 1); have d2 : w5.cell? ⟨w3.heap.size, 2, none⟩ = some (.int .i64 er) := (by simpa using HK5.out.cell 2))
  go_ret
  exact ⟨rfl, bel_then (bel_then HL3.out hB4) hD5.below⟩
end Go.Proofs.Ytjdjpljjahnhjaa
