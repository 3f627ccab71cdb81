
/- There and back: any number's bytes, behind any others: the law, walked. No condition. -/
import Derived.Test.YteifpdpppndipaaApp
import Derived.Test.YteifpdpppndipaaVarPut
import Derived.Test.YteifpdpppndipaaCells
import Derived.Test.YteifpdpppndipaaFramePure
import Derived.Lib.ConvBytes
import Derived.Lib.AtoiErrMem
import Derived.Deep.RegionHeld
import Derived.Deep.Cut
namespace Go.Proofs.Yteifpdpppndipaa
set_option maxRecDepth 100000
set_option linter.unusedSimpArgs false
open Go.RowKit
set_option linter.unusedVariables false
set_option linter.unusedSimpArgs false

theorem upon_bytes {P : Program} {o : Oper} {a : Act} {w : World} {K : Act → World → Prop} {Q : Exit → Act → World → Prop} (d : Nat) (hdst : o.dst = some d) (src dst e : TypeId) {u : TypeDesc}
    (hs : P.underlying src = some u) (hd : P.underlying dst = some (.slice e)) (he : P.underlying e = some (.int .u8)) (s : ByteArray) (hsz : s.size ≤ maxLen)
    (h : ∀ v w', OwnC w' w.heap.size v s.size (s.data.toList.map bcell) → Below w.heap.size w w' → K (a.put o.dst v) w') :
    Oper.upon P o a K Q (((convert src dst (.string s)).run P w).andThen fun a w' => .ok (.value a) w') := by
  rw [Lib.run_convert_string_bytes w src dst e s hs hd he]
  exact h _ _ (OwnC.bytes w e s hsz) (Lib.bytesWorld_below w e s)
def litP : ByteArray := { data := #[129, 1] }
theorem vget_litP : vget (bl litP) = (129, 2, 0) := by
  show vget [129, 1] = _
  simp [vget, vgetFrom]
theorem vput_litP : vput (vfold (-65)) = [129, 1] := by
  have : vfold (-65) = 129 := by decide
  rw [this, vput_ge (by decide), vput_lt (by decide)]; rfl
theorem law02_speaksP (w : World) : Calls Try.prog 5 #[] w fun e w' => e = .returned (.bool true) ∧ Below w.heap.size w w' := by
  have e1 : vback (vget (bl litP)).1 = -65 := by rw [vget_litP]; decide
  have e2 : vg2 litP = 2 := (vg_of vget_litP).2.1
  have e3 : vg3 litP = 0 := (vg_of vget_litP).2.2
  go_enter Try.func5, Try.ntmps5
  go_wp2_with fail
  refine (varint_GetInt litP w (by decide)).mono ?_
  rintro e w' ⟨rfl, rfl⟩
  rw [e1, e2, e3]
  go_wp2_with fail
  refine (varint_PutInt w.heap.size (.slice none 0 0) [] (-65) w (OwnC.nil _ _) (Nat.le_refl _) (by unfold I64; omega) (by simp)).mono ?_
  rintro e w1 ⟨v1, rfl, h1, h2, h3⟩
  have hconv := h1.string (P := Try.prog) 24 9 5 (by kernel_rfl) (by kernel_rfl) (by kernel_rfl)
  rw [vput_litP, show strOf ([] ++ [129, 1]) = { data := #[129, 1] } from rfl] at hconv
  go_wp2
  go_ret
  exact ⟨by simp, h2.below (fun i hi e => by cases e)⟩


theorem vputP10 (n : Nat) (h : n < 18446744073709551616) : (vput n).length ≤ 10 := by
  have := vput_len 9 n (by have : (128 : Nat) ^ (9 + 1) = 1180591620717411303424 := by decide
                           omega)
  omega
theorem ext_put (s : ByteArray) (q : Nat) (hq : q < 18446744073709551616) (S : ByteArray) (hS : strOf (bl s ++ vput q) = S) : vget (bl (S.extract s.size S.size)) = (q, (vput q).length, 0) ∧ s ++ strOf (vput q) = S ∧ S.size = s.size + (vput q).length := by
  have hb : bl S = bl s ++ vput q := by rw [← hS, bl_str]
  have hsz : S.size = s.size + (vput q).length := by rw [size_bl, hb, List.length_append, ← size_bl]
  refine ⟨?_, ?_, hsz⟩
  · have he : bl (S.extract s.size S.size) = vput q := by
      rw [bl_ext, hb, List.drop_left' (by rw [← size_bl]), List.take_of_length_le (by omega)]
    rw [he]
    have := vget_put q [] hq
    rwa [List.append_nil] at this
  · rw [← hS]
    apply bl_inj
    rw [bl_app, bl_str, bl_str]
set_option maxHeartbeats 8000000 in
theorem varintPuts (s : ByteArray) (n m : Int) (w : World) (hs : s.size ≤ maxLen) (hn : (Lit.int .i64 n).wf = true) (hm : (Lit.int .u64 m).wf = true) :
    Calls Try.prog 3 #[.string s, .int .i64 n, .int .u64 m] w fun e w' => e = .returned (.bool true) ∧ Below w.heap.size w w' := by
  have hs' : s.size ≤ 9223372036854775807 := hs
  have hnI := I64.of_wf hn
  obtain ⟨m0, m1⟩ := wf_u64 hm
  obtain ⟨M, rfl⟩ : ∃ M : Nat, m = (M : Int) := ⟨m.toNat, by omega⟩
  have hM : M < 18446744073709551616 := by omega
  have HNW := hid' hn
  have HMW := hid' hm
  have HNI0 := hid' hnI
  have HM0 := hid' hM
  have HSM0 := hid' hs
  clear hn hm m0 m1 hs
  by_cases hbig : 200 < s.size
  · clear hnI hM
    go_enter Try.func3, Try.ntmps3
    go_wp2_with fail
    refine (law02_speaksP w).mono ?_
    rintro e w1 ⟨rfl, hB1⟩
    go_wp2
    go_ret
    exact ⟨rfl, hB1⟩
  have hqn := vfold_lt hnI
  obtain ⟨SA, hSA⟩ : ∃ SA, SA = strOf (bl s ++ vput (vfold n)) := ⟨_, rfl⟩
  obtain ⟨SB, hSB⟩ : ∃ SB, SB = strOf (bl s ++ vput M) := ⟨_, rfl⟩
  have HSA := hid' hSA.symm
  have HSB := hid' hSB.symm
  have HNI := hid' hnI
  have HMI := hid' hM
  have hbl : s.data.toList = bl s := rfl
  have hblz : (bl s).length = s.size := bl_len s
  have HSZ := hid' (show (bl s).length ≤ 1000000 by omega)
  have HLZ := hid' hblz
  have hszm : s.size ≤ maxLen := HSM0.out
  have HSM := hid' hszm
  clear hSA hSB hnI hM hqn hblz hbl hszm
  go_enter Try.func3, Try.ntmps3
  go_wp2_with fail
  refine (law02_speaksP w).mono ?_
  rintro e w1 ⟨rfl, hB1⟩
  have HB1 := hid' hB1
  clear hB1
  have hB := bel_refl w1
  go_upto_region 5 with (fail)
  go_cut [7, 8] from 20 (fun v7 v8 wx => v7 = .string SA ∧ v8 = .string SB ∧ Below w1.heap.size w1 wx)
  case first =>
    go_region_with (first
      | (refine upon_bytes 21 rfl 9 24 5 Try.underlying9 Try.underlying24 Try.underlying5 s HSM.out ?_; intro va wq q0 hBx
         try (have hab : ∀ k, va.ownBlock = some k → vb.ownBlock ≠ some k := fun k hk e => absurd (qb.base k e).2 (Nat.not_lt.2 (q0.base k hk).1); have hba : ∀ k, vb.ownBlock = some k → va.ownBlock ≠ some k := fun k hk e => hab k e hk)
         have qa := q0.lower (base' := w1.heap.size) (by first | exact hB.size | exact (bel_drew hB).size)
         have hB := (show Below w1.heap.size w1 wq from by first | exact bel_then hB hBx | exact bel_then (bel_drew hB) hBx)
         try (have qb := (show OwnC wq w1.heap.size vb _ _ from by first | exact qb.below hBx | exact qb.below (bel_then (bel_drew (bel_refl _)) hBx)))
         try (have hcb := qb.string (P := Try.prog) 24 9 5 (by kernel_rfl) (by kernel_rfl) (by kernel_rfl); try rw [HSB.out] at hcb)
         clear hBx q0)
      | (refine upon_bytes 26 rfl 9 24 5 Try.underlying9 Try.underlying24 Try.underlying5 s HSM.out ?_; intro vb wq q0 hBx
         try (have hba : ∀ k, vb.ownBlock = some k → va.ownBlock ≠ some k := fun k hk e => absurd (qa.base k e).2 (Nat.not_lt.2 (q0.base k hk).1); have hab : ∀ k, va.ownBlock = some k → vb.ownBlock ≠ some k := fun k hk e => hba k e hk)
         have qb := q0.lower (base' := w1.heap.size) (by first | exact hB.size | exact (bel_drew hB).size)
         have hB := (show Below w1.heap.size w1 wq from by first | exact bel_then hB hBx | exact bel_then (bel_drew hB) hBx)
         try (have qa := (show OwnC wq w1.heap.size va _ _ from by first | exact qa.below hBx | exact qa.below (bel_then (bel_drew (bel_refl _)) hBx)))
         try (have hca := qa.string (P := Try.prog) 24 9 5 (by kernel_rfl) (by kernel_rfl) (by kernel_rfl); try rw [HSA.out] at hca)
         clear hBx q0)
      | (go_at_call 6; refine (varint_PutInt w1.heap.size va (bl s) n _ qa (by first | exact hB.size | exact (bel_drew hB).size) HNI.out HSZ.out).mono ?_; rintro e wq ⟨va, rfl, q0, hMx, hnx⟩
         try (have hn1 : ∀ k, va.ownBlock = some k → vb.ownBlock ≠ some k := fun k hk e => (hnx.elim (fun h => hab k (by rw [← h]; exact hk) e) (fun ⟨k', g1, g2⟩ => absurd (qb.base k e).2 (Nat.not_lt.2 (by rw [hk] at g1; rw [Option.some.inj g1]; exact g2))))
              have qb := (show OwnC wq w1.heap.size vb _ _ from by first | exact qb.mod hMx (fun k hk e => hab k e hk) | exact qb.mod ((Mod.drew (Mod.refl _ _)).trans hMx) (fun k hk e => hab k e hk))
              have hab := hn1
              have hba : ∀ k, vb.ownBlock = some k → va.ownBlock ≠ some k := fun k hk e => hn1 k e hk)
         have hB := (show Below w1.heap.size w1 wq from by first | exact bel_mod hB hMx (fun i hi e => by have := (qa.base i e).1; omega) | exact bel_mod (bel_drew hB) hMx (fun i hi e => by have := (qa.base i e).1; omega))
         have qa := q0
         try (have hca := qa.string (P := Try.prog) 24 9 5 (by kernel_rfl) (by kernel_rfl) (by kernel_rfl); try rw [HSA.out] at hca)
         try (have hcb := qb.string (P := Try.prog) 24 9 5 (by kernel_rfl) (by kernel_rfl) (by kernel_rfl); try rw [HSB.out] at hcb)
         clear hMx q0 hnx)
      | (go_at_call 7; refine (varint_Put w1.heap.size vb (bl s) M _ qb (by first | exact hB.size | exact (bel_drew hB).size) HMI.out HSZ.out).mono ?_; rintro e wq ⟨vb, rfl, q0, hMx, hnx⟩
         try (have hn1 : ∀ k, vb.ownBlock = some k → va.ownBlock ≠ some k := fun k hk e => (hnx.elim (fun h => hba k (by rw [← h]; exact hk) e) (fun ⟨k', g1, g2⟩ => absurd (qa.base k e).2 (Nat.not_lt.2 (by rw [hk] at g1; rw [Option.some.inj g1]; exact g2))))
              have qa := (show OwnC wq w1.heap.size va _ _ from by first | exact qa.mod hMx (fun k hk e => hba k e hk) | exact qa.mod ((Mod.drew (Mod.refl _ _)).trans hMx) (fun k hk e => hba k e hk))
              have hba := hn1
              have hab : ∀ k, va.ownBlock = some k → vb.ownBlock ≠ some k := fun k hk e => hn1 k e hk)
         have hB := (show Below w1.heap.size w1 wq from by first | exact bel_mod hB hMx (fun i hi e => by have := (qb.base i e).1; omega) | exact bel_mod (bel_drew hB) hMx (fun i hi e => by have := (qb.base i e).1; omega))
         have qb := q0
         try (have hca := qa.string (P := Try.prog) 24 9 5 (by kernel_rfl) (by kernel_rfl) (by kernel_rfl); try rw [HSA.out] at hca)
         try (have hcb := qb.string (P := Try.prog) 24 9 5 (by kernel_rfl) (by kernel_rfl) (by kernel_rfl); try rw [HSB.out] at hcb)
         clear hMx q0 hnx))
    all_goals
      go_wp2_with fail
      go_meet
      exact ⟨rfl, rfl, hB⟩
  case rest =>
    obtain ⟨rfl, rfl, hS⟩ := hcut
    have HL := hid' (bel_then HB1.out hS)
    clear hS hB
    obtain ⟨q, hq⟩ : ∃ q, q = vfold n := ⟨_, rfl⟩
    have hvb : vback q = n := by rw [hq]; exact vback_fold n
    have hqlt : q < 18446744073709551616 := by rw [hq]; exact vfold_lt HNI.out
    have hsa := HSA.out
    rw [← hq] at hsa
    obtain ⟨a1, a2, a3⟩ := ext_put s q hqlt SA hsa
    obtain ⟨b1, b2, b3⟩ := ext_put s M HMI.out SB HSB.out
    obtain ⟨ga1, ga2, ga3⟩ := vg_of a1
    obtain ⟨gb1, gb2, gb3⟩ := vg_of b1
    have hl10 : (vput q).length ≤ 10 := vputP10 q hqlt
    have hl10b : (vput M).length ≤ 10 := vputP10 M HMI.out
    have z1 : s.size + (strOf (vput q)).size ≤ 9223372036854775807 := by show s.size + (vput q).length ≤ _; omega
    have z2 : s.size + (strOf (vput M)).size ≤ 9223372036854775807 := by show s.size + (vput M).length ≤ _; omega
    have y1 : (s.size : Int) ≤ (SA.size : Int) := by omega
    have y2 : (s.size : Int) ≤ (SB.size : Int) := by omega
    have hSAz : SA.size ≤ maxLen := by unfold maxLen; omega
    have hSBz : SB.size ≤ maxLen := by unfold maxLen; omega
    have HGA := hid' (show vback (vget (bl (SA.extract s.size SA.size))).1 = n by rw [a1]; exact hvb)
    have HGA3 := hid' ga3
    have HGB1 := hid' gb1
    have HGB3 := hid' gb3
    have HXA := hid' (fun W => varint_GetInt (SA.extract s.size SA.size) W (by rw [ByteArray.size_extract]; unfold maxLen at *; omega))
    have HXB := hid' (fun W => varint_Get (SB.extract s.size SB.size) W (by rw [ByteArray.size_extract]; unfold maxLen at *; omega))
    rw [HGA.out, HGA3.out] at HXA
    rw [HGB1.out, HGB3.out] at HXB
    have HF := hid' (fun W => ref02_Fold n W HNI.out)
    have HF2 := hid' (fun W => varint_Fold n W HNI.out)
    rw [← hq] at HF HF2
    have HPQ := hid' (fun W => ref02_Put q W hqlt)
    have HPM := hid' (fun W => ref02_Put M W HMI.out)
    have HBM := hid' (fun W => varint_Back M W HMI.out)
    have HBM2 := hid' (fun W => ref02_Back M W HMI.out)
    have HBQ := hid' (fun W => varint_Back q W hqlt)
    rw [hvb] at HBQ
    clear hq hvb hqlt hsa a1 b1 a3 b3 ga1 ga2 ga3 gb1 gb2 gb3 hl10 hl10b hSAz hSBz HSA HSB
    go_wp2_with fail
    refine (HF.out _).mono ?_
    rintro e w' ⟨rfl, rfl⟩
    go_wp2_with fail
    refine (HPQ.out _).mono ?_
    rintro e w2 ⟨rfl, hB2⟩
    have HL2 := hid' (bel_then HL.out hB2)
    clear hB2
    go_wp2_with fail
    refine (HPM.out _).mono ?_
    rintro e w3 ⟨rfl, hB3⟩
    have HL3 := hid' (bel_then HL2.out hB3)
    clear hB3
    go_wp2_with fail
    refine (HF2.out _).mono ?_
    rintro e w' ⟨rfl, rfl⟩
    go_wp2_with fail
    refine (HF.out _).mono ?_
    rintro e w' ⟨rfl, rfl⟩
    go_wp2_with fail
    refine (HBM.out _).mono ?_
    rintro e w' ⟨rfl, rfl⟩
    go_wp2_with fail
    refine (HBM2.out _).mono ?_
    rintro e w' ⟨rfl, rfl⟩
    go_wp2_with fail
    refine (HF2.out _).mono ?_
    rintro e w' ⟨rfl, rfl⟩
    go_wp2_with fail
    refine (HBQ.out _).mono ?_
    rintro e w' ⟨rfl, rfl⟩
    go_wp2_with fail
    refine (HXA.out _).mono ?_
    rintro e w' ⟨rfl, rfl⟩
    go_wp2_with fail
    refine (HXB.out _).mono ?_
    rintro e w' ⟨rfl, rfl⟩
    go_wp2
    go_ret
    exact ⟨rfl, HL3.out⟩
end Go.Proofs.Yteifpdpppndipaa
