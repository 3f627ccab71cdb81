
/- There and back: the bytes of any records, cut anywhere: the law, walked. No condition. -/
import Derived.Test.YtjdjpljjahnhjaaLawLog
namespace Go.Proofs.Ytjdjpljjahnhjaa
set_option maxRecDepth 100000
set_option linter.unusedSimpArgs false
open Go.RowKit
set_option linter.unusedVariables false
set_option linter.unusedSimpArgs false

theorem bErr_snoc {l : List Rec} {i : Nat} {r : Rec} (h : l[i]? = some r) : bErr (l.take (i + 1)) = if bErr (l.take i) = 0 then fCheck r else bErr (l.take i) := by
  rw [take_snoc' h]
  have : ∀ a : List Rec, bErr (a ++ [r]) = if bErr a = 0 then fCheck r else bErr a := by
    intro a
    induction a with
    | nil => show (if fCheck r = 0 then bErr [] else fCheck r) = _; simp [bErr]; intro h; exact h.symm
    | cons x a ih =>
      by_cases hx : fCheck x = 0
      · have e1 : bErr (x :: a) = bErr a := by rw [bErr, if_pos hx]
        have e2 : bErr (x :: a ++ [r]) = bErr (a ++ [r]) := by rw [List.cons_append, bErr, if_pos hx]
        rw [e1, e2]; exact ih
      · have e1 : bErr (x :: a) = fCheck x := by rw [bErr, if_neg hx]
        have e2 : bErr (x :: a ++ [r]) = fCheck x := by rw [List.cons_append, bErr, if_neg hx]
        rw [e1, e2, if_neg hx]
  exact this _
theorem RdS.take {w : World} {A : Option Addr} {l : List Rec} (h : RdS w A 3 fRec l) (n : Nat) : RdS w A 3 fRec (l.take n) := fun j x hx => by
  rw [List.getElem?_take] at hx
  split at hx
  · exact h j x hx
  · cases hx
def rowR (w : World) (A : Option Addr) (l : List Rec) : Prop := ∀ j x, l[j]? = some x → ∃ ad row, A = some ad ∧ RRec w row x ∧ row.length = 3 ∧ ∀ i u, row[i]? = some u → w.cell? ((ad.add (j * 3)).add i) = some u
theorem rowR.rds {w : World} {A : Option Addr} {l : List Rec} (h : rowR w A l) : RdS w A 3 fRec l := fun j x hj => by
  obtain ⟨ad, row, e, ha, hl, hc⟩ := h j x hj
  obtain ⟨rfl, _⟩ := ha.cells
  exact ⟨ad, e, rfl, hc⟩
theorem rowR.i64 {w : World} {A : Option Addr} {l : List Rec} (h : rowR w A l) : ∀ r ∈ l, I64 r.2.1 ∧ r.2.2.size ≤ maxLen := fun r hr => by
  obtain ⟨j, hj⟩ := List.getElem?_of_mem hr
  obtain ⟨ad, row, e, ha, hl, hc⟩ := h j r hj
  exact ⟨ha.cells.2.2.1, ha.cells.2.2.2⟩
theorem bCat_size_small {l : List Rec} (h : ∀ r ∈ l, I64 r.2.1 ∧ r.2.2.size ≤ 100) : (bCat l).size ≤ l.length * 200 := by
  induction l with
  | nil => show (0 : Nat) ≤ _; omega
  | cons r l ih =>
    obtain ⟨hI, hx⟩ := h r (List.mem_cons_self ..)
    have := ih (fun x hx => h x (List.mem_cons_of_mem _ hx))
    show (fFull r ++ bCat l).size ≤ _
    rw [size_app]
    have h1 := fFull_size r
    have h2 := recBody_size r
    have h3 := vput10 (vfold r.2.1) (vfold_lt hI)
    have h4 := vput10 (recBody r).size (by omega)
    simp only [List.length_cons]
    omega
set_option maxHeartbeats 8000000 in
theorem logBuilds (A : Option Addr) (c : Nat) (l : List Rec) (a : Int) (w : World)
    (hr : ∀ j x, l[j]? = some x → ∃ ad row, A = some ad ∧ RRec w row x ∧ row.length = 3 ∧ ∀ i u, row[i]? = some u → w.cell? ((ad.add (j * 3)).add i) = some u) (hn : l.length ≤ maxLen) (hcap : l.length ≤ c) (ha : (Lit.int .u16 a).wf = true) :
    Calls Try.prog 8 #[.slice A l.length c, .int .u16 a] w fun e w' => e = .returned (.bool true) ∧ Below w.heap.size w w' := by
  have hn' : l.length ≤ 9223372036854775807 := hn
  obtain ⟨ha0, ha1⟩ := wf_u16 ha
  have HR := hid' (rowR.rds hr)
  have HI := hid' (rowR.i64 hr)
  clear hr ha hn
  by_cases hbig : 20 < l.length
  · go_enter Try.func8, Try.ntmps8
    go_wp2_with (go_at_call 29; refine (speaks06 _).mono ?_; rintro e w1 ⟨rfl, hB1⟩)
    go_ret
    exact ⟨rfl, hB1⟩
  obtain ⟨n, hn⟩ : ∃ n, n = l.length := ⟨_, rfl⟩
  rw [← hn] at hcap hbig hn' ⊢
  have HN := hid' hn
  clear hn
  go_enter Try.func8, Try.ntmps8
  go_wp2_with (go_at_call 29; refine (speaks06 _).mono ?_; rintro e w1 ⟨rfl, hB1⟩)
  go_loopw [5, 26] (fun v5 v26 wr => ∃ i : Nat, i ≤ n ∧ v26 = .int .i64 i ∧ v5 = .int .i64 (bErr (l.take i)) ∧ (∀ r ∈ l.take i, r.2.2.size ≤ 100) ∧ Below w.heap.size w wr) (fun _ v26 _ => n - (intOf v26).toNat)
  case atStart => exact ⟨0, Nat.zero_le _, rfl, rfl, fun x hx => by simp at hx, hB1⟩
  case round =>
    obtain ⟨i, hi, rfl, rfl, hsm, hL⟩ := hrel
    have HL := hid' hL
    have HSM := hid' hsm
    clear hL hsm
    by_cases hlt : i < n
    · obtain ⟨r, hx⟩ : ∃ x, l[i]? = some x := ⟨_, List.getElem?_eq_getElem (by rw [← HN.out]; exact hlt)⟩
      obtain ⟨ad, rfl, a0, a1, a2⟩ := (HR.out.below HL.out).rec hx
      obtain ⟨hI, hxm⟩ := HI.out r (List.mem_of_getElem? hx)
      have hxm' : r.2.2.size ≤ 9223372036854775807 := hxm
      have hsn := bErr_snoc hx
      have HX := hid' hx
      by_cases h100 : 100 < r.2.2.size
      · obtain ⟨kd, tm, x⟩ := r
        simp only at h100 a0 a1 a2 hxm'
        clear hsn hx hxm hI
        go_wp2
        go_ret
        exact ⟨rfl, bel_alloc HL.out _⟩
      have HC := hid' (fun W => ref05_Check r W hI (by omega))
      have HSM2 := hid' (show ∀ y ∈ l.take (i + 1), y.2.2.size ≤ 100 from fun y hy => by
        rw [take_snoc' HX.out] at hy
        rcases List.mem_append.1 hy with hy | hy
        · exact HSM.out y hy
        · rw [List.mem_singleton] at hy; subst hy; omega)
      obtain ⟨kd, tm, x⟩ := r
      unfold recV at HC
      simp only at HC h100 a0 a1 a2 hxm'
      have HL1 := hid' (bel_alloc HL.out (.cells #[.int .i64 kd, .int .i64 tm, .string x] 37))
      obtain ⟨er, her⟩ : ∃ er, er = bErr (l.take i) := ⟨_, rfl⟩
      rw [← her] at hsn ⊢
      by_cases h0 : er = 0
      · rw [if_pos h0] at hsn
        subst h0
        have HSN := hid' hsn
        clear hsn hx hxm hI her
        go_wp2_with (go_at_call 24; refine (HC.out _).mono ?_; rintro e w2 ⟨rfl, hB2⟩)
        go_roundw
        case rel => exact ⟨i + 1, by omega, by go_num, by rw [HSN.out], HSM2.out, bel_then HL1.out hB2⟩
        case measure => first | (simp [intOf]; done) | (simp [intOf]; omega)
      · rw [if_neg h0] at hsn
        have HSN := hid' hsn
        have e1 : (er == 0) = false := by simpa using h0
        clear hsn hx hxm hI her h0
        go_wp2
        go_roundw
        case rel => exact ⟨i + 1, by omega, by go_num, by rw [HSN.out], HSM2.out, HL1.out⟩
        case measure => first | (simp [intOf]; done) | (simp [intOf]; omega)
    obtain rfl : i = n := by omega
    have hall : l.take i = l := List.take_of_length_le (by rw [← HN.out]; omega)
    have hsm := HSM.out
    rw [hall] at hsm ⊢
    have HT := hid' (show ∀ r ∈ l, I64 r.2.1 ∧ r.2.2.size ≤ 200000 from fun r hr => ⟨(HI.out r hr).1, Nat.le_trans (hsm r hr) (by omega)⟩)
    have HBu := hid' (fun W h => log_Build A c l W h)
    have HTi := hid' (fun W h => log_Times A c l W h)
    rw [← HN.out] at HBu HTi
    have HRL := hid' (HR.out.below HL.out)
    obtain ⟨er, her⟩ : ∃ er, er = bErr l := ⟨_, rfl⟩
    obtain ⟨S, hS⟩ : ∃ S, S = bEnc l := ⟨_, rfl⟩
    rw [← her, ← hS] at HBu
    rw [← her]
    have HSML := hid' hsm
    have HER := hid' her
    have HSS := hid' hS
    have e0 : (er != er) = false := by simp
    clear hall hsm her hS
    go_wp2_with fail
    refine (HBu.out _ HRL.out (by omega) HT.out).mono ?_
    rintro e w2 ⟨rfl, hB2⟩
    go_wp2_with fail
    refine (HTi.out _ (HRL.out.below hB2) (by omega)).mono ?_
    rintro e w3 ⟨v3, rfl, hO3, hB3⟩
    obtain ⟨A3, c3, rfl, -, -, hr3⟩ := own_rd hO3
    have HL3 := hid' (bel_then (bel_then HL.out hB2) hB3)
    have HR3 := hid' ((HRL.out.below hB2).below hB3)
    have HM3 := hid' hr3
    clear hB2 hB3 hO3 hr3
    go_wp2
    clear e0
    go_loopw [58] (fun v58 wr => ∃ j : Nat, j ≤ i ∧ v58 = .int .i64 j ∧ Below w3.heap.size w3 wr) (fun v58 _ => i - (intOf v58).toNat)
    case atStart => exact ⟨0, Nat.zero_le _, rfl, bel_refl _⟩
    case round =>
      obtain ⟨j, hj, rfl, hL⟩ := hrel
      have HL := hid' hL
      clear hL
      by_cases hlt2 : j < i
      · obtain ⟨r, hx⟩ : ∃ x, l[j]? = some x := ⟨_, List.getElem?_eq_getElem (by rw [← HN.out]; exact hlt2)⟩
        obtain ⟨ad, rfl, a0, a1, a2⟩ := (HR3.out.below HL.out).rec hx
        obtain ⟨ad3, rfl, b0⟩ := (HM3.out.below HL.out) j (fTime r) (by rw [List.getElem?_map, hx]; rfl)
        obtain ⟨kd, tm, x⟩ := r
        unfold fTime at b0
        simp only at a0 a1 a2 b0
        have hb1 := bel_alloc (bel_refl wr) (.cells #[.int .i64 kd, .int .i64 tm, .string x] 37)
        have HB1 := hid' hb1
        have n1 : (wr.alloc (.cells #[.int .i64 kd, .int .i64 tm, .string x] 37)).cell? ⟨wr.heap.size, 1, none⟩ = some (.int .i64 tm) := (Blk.new_ wr 37 #[.int .i64 kd, .int .i64 tm, .string x]).cell 1
        have b1 : (wr.alloc (.cells #[.int .i64 kd, .int .i64 tm, .string x] 37)).cell? (ad3.add j) = some (.int .i64 tm) := (hb1.cell (World.block_lt_of_cell? wr _ b0)).trans b0
        clear hx hb1
        go_wp2
        clear a0 a1 a2 b0
        generalize (wr.alloc (.cells #[.int .i64 kd, .int .i64 tm, .string x] 37)) = wa at *
        go_quiet (fail)
        all_goals
          go_wp2
          go_roundw
          case rel => exact ⟨j + 1, by omega, by go_num, bel_drewN (bel_then HL.out HB1.out) _⟩
          case measure => first | (simp [intOf]; done) | (simp [intOf]; omega)
      · have HLW := hid' (bel_then HL3.out HL.out)
        have HRW := hid' (HR3.out.below HL.out)
        by_cases h0 : er = 0
        · subst h0
          have hz := bErr_zero HER.out.symm
          have hS : S = bCat l := HSS.out.trans (by unfold bEnc; rw [if_pos HER.out.symm])
          have HOK := hid' (show ∀ r ∈ l, rOk r from fun r hr => ⟨hz r hr, (HT.out r hr).1⟩)
          have hsz := bCat_size_le (l := l) (fun r hr => HOK.out r hr)
          have hsz := bCat_size_small (l := l) (fun r hr => ⟨(HT.out r hr).1, HSML.out r hr⟩)
          rw [← hS, ← HN.out] at hsz
          obtain ⟨K, hK⟩ : ∃ K : Nat, a % ((S.size : Int) + 1) = (K : Int) := ⟨(a % ((S.size : Int) + 1)).toNat, (Int.toNat_of_nonneg (Int.emod_nonneg _ (by omega))).symm⟩
          have hKS : K ≤ S.size := by
            have := Int.emod_lt_of_pos a (show (0 : Int) < (S.size : Int) + 1 by omega)
            omega
          have HS := hid' hS
          have HK := hid' hK
          have hKS' : (K : Int) ≤ (S.size : Int) := by omega
          clear hz hS hK
          go_wp2
          rw [HK.out]
          go_loopw [14, 15] (fun v14 v15 wx => ∃ m : Nat, m ≤ i ∧ v14 = .int .i64 m ∧ v15 = .int .i64 ((bCat (l.take m)).size : Int) ∧ (bCat (l.take m)).size ≤ K ∧ Below wr.heap.size wr wx) (fun v14 _ _ => i - (intOf v14).toNat)
          case atStart => exact ⟨0, Nat.zero_le _, rfl, rfl, Nat.zero_le _, bel_refl _⟩
          case round =>
            obtain ⟨m, hm, rfl, rfl, hV, hX⟩ := hrel
            have HX := hid' hX
            obtain ⟨V, hVV⟩ : ∃ V, V = (bCat (l.take m)).size := ⟨_, rfl⟩
            have HVV := hid' hVV
            rw [← hVV] at hV ⊢
            clear hX hVV
            by_cases hlt3 : m < i
            · obtain ⟨r, hx⟩ : ∃ x, l[m]? = some x := ⟨_, List.getElem?_eq_getElem (by rw [← HN.out]; exact hlt3)⟩
              have hmem := List.mem_of_getElem? hx
              have HE := hid' (fun W => ref05_Encode r W (HT.out r hmem).1 (HT.out r hmem).2)
              obtain ⟨ad, rfl, a0, a1, a2⟩ := (HRW.out.below HX.out).rec hx
              have hsn := bCat_size_snoc (l.take m) r
              rw [← take_snoc' hx, ← HVV.out] at hsn
              have hfu : (fFull r).size ≤ S.size := by
                have h1 := bCat_size_le (l := l.take (m + 1)) (fun y hy => HOK.out y (List.mem_of_mem_take hy))
                have h2 : (bCat (l.take (m + 1))).size ≤ (bCat l).size := by
                  have : bCat l = bCat (l.take (m + 1)) ++ bCat (l.drop (m + 1)) := by rw [← bCat_app, List.take_append_drop]
                  rw [this, size_app]; omega
                rw [← HS.out] at h2
                omega
              obtain ⟨F, hF⟩ : ∃ F, F = fFull r := ⟨_, rfl⟩
              rw [← hF] at hsn HE hfu
              have HF := hid' hF
              have HXX := hid' hx
              obtain ⟨kd, tm, x⟩ := r
              unfold recV at HE
              simp only at HE a0 a1 a2
              obtain ⟨f, hf⟩ : ∃ f, f = F.size := ⟨_, rfl⟩
              rw [← hf] at hsn hfu
              have HFS := hid' hf
              have HSN := hid' hsn
              clear hx hmem hsn hF hf
              by_cases hfit : V + f ≤ K
              · obtain ⟨V2, hV2⟩ : ∃ V2, V2 = V + f := ⟨_, rfl⟩
                have i1 : (V : Int) + (f : Int) = (V2 : Int) := by omega
                have i2 : (V2 : Int) ≤ (K : Int) := by omega
                have hlt3' : (m : Int) < (i : Int) := by omega
                have hVK2 : V2 ≤ K := by omega
                have HV2 := hid' hV2
                clear hV2 hfit
                go_wp2_with fail
                refine (HE.out _).mono ?_
                rintro e w5 ⟨rfl, hB5⟩
                have hfs : F.size = f := HFS.out.symm
                obtain ⟨ad', e', a0, a1, a2⟩ := ((HRW.out.below HX.out).below hB5).rec HXX.out
                cases e'
                go_wp2_with fail
                refine (HE.out _).mono ?_
                rintro e w6 ⟨rfl, hB6⟩
                go_wp2
                go_roundw
                case rel => exact ⟨m + 1, by omega, by go_num, by rw [HSN.out, ← HV2.out], by rw [HSN.out, ← HV2.out]; exact hVK2, bel_then (bel_then HX.out hB5) hB6⟩
                case measure => first | (simp [intOf]; done) | (simp [intOf]; omega)
              · obtain ⟨V2, hV2⟩ : ∃ V2, V2 = V + f := ⟨_, rfl⟩
                have i1 : (V : Int) + (f : Int) = (V2 : Int) := by omega
                have i3 : decide (V2 ≤ K) = false := by rw [decide_eq_false_iff_not]; omega
                have HNX := hid' (show ∀ r, l[m]? = some r → K < V + (fFull r).size from fun r hr => by
                  rw [HXX.out] at hr
                  injection hr with hr
                  subst hr
                  rw [← HF.out, ← HFS.out]; omega)
                clear hV2 hfit
                go_wp2_with fail
                refine (HE.out _).mono ?_
                rintro e w5 ⟨rfl, hB5⟩
                have hfs : F.size = f := HFS.out.symm
                have HX5 := hid' (bel_then HX.out hB5)
                go_wp2_with fail
                clear hfs hB5 a0 a1 a2 i1 i3
                have hcut := cut_law l HOK.out K m (by rw [← HS.out]; exact hKS) (by rw [← HN.out]; exact hm) (by rw [← HVV.out]; exact hV) (by rw [← HVV.out]; exact HNX.out)
                rw [← HVV.out, ← HS.out] at hcut
                have HCUT := hid' hcut
                clear hcut
                refine (log_Parse (S.extract 0 K) _ (by rw [ByteArray.size_extract]; omega)).mono ?_
                rintro e w7 ⟨k, v, rfl, hend, hlen, hO, hB7⟩
                obtain ⟨q1, q2, q3⟩ := HCUT.out
                have hlm : (l.take m).length = m := by rw [List.length_take, ← HN.out]; omega
                have hkm := one_lens hend (j := m) (by rw [q1]; exact q2) hlen (by rw [q1]; exact hlm)
                subst hkm
                rw [q1] at hO ⊢
                dsimp only at hO ⊢
                rw [q3]
                obtain ⟨A7, c7, rfl, -, -, hr7⟩ := own_rd hO
                have HR7 := hid' (rd_recS hr7)
                have HX7 := hid' (bel_then HX5.out hB7)
                have HSa := hid' (fun W h h' => ref05_Same A7 (some ad) c7 c (l.take k) (l.take k) W h h')
                rw [hlm, sameR_self] at HSa
                have HBd := hid' (fun W h => ref06_Build (some ad) c l W h (by rw [← HN.out]; omega) (fun r hr => ⟨(HT.out r hr).1, (HT.out r hr).2, (HOK.out r hr).1⟩))
                rw [← HN.out, ← HS.out] at HBd
                have hsl := cut_h (P := Try.prog) 51 37 3 Try.underlying51 (by kernel_rfl) (some ad) i c k (by omega)
                clear hO hr7 hend hlen q1 q2 q3 hlm hB7
                by_cases hVK : V = K
                · subst hVK
                  rw [if_pos rfl]
                  go_wp2_with (first
                    | (go_at_call 35; refine (HBd.out _ (HRW.out.below HX7.out)).mono ?_; rintro e w8 ⟨rfl, hB8⟩)
                    | (go_at_call 33; refine (HSa.out _ (HR7.out.below hB8) ((((HRW.out.below HX7.out).below hB8)).take k) (by omega) (by omega)).mono ?_; rintro e w9 ⟨rfl, hD9⟩))
                  go_ret
                  exact ⟨rfl, bel_then (bel_then (bel_then HLW.out HX7.out) hB8) hD9.below⟩
                · rw [if_neg hVK]
                  have hVK' : ((V : Int) == (K : Int)) = false := by rw [beq_eq_false_iff_ne]; omega
                  clear hVK
                  go_wp2_with (first
                    | (go_at_call 35; refine (HBd.out _ (HRW.out.below HX7.out)).mono ?_; rintro e w8 ⟨rfl, hB8⟩)
                    | (go_at_call 33; refine (HSa.out _ (HR7.out.below hB8) ((((HRW.out.below HX7.out).below hB8)).take k) (by omega) (by omega)).mono ?_; rintro e w9 ⟨rfl, hD9⟩))
                  go_ret
                  exact ⟨rfl, bel_then (bel_then (bel_then HLW.out HX7.out) hB8) hD9.below⟩
            · have HNX := hid' (show ∀ r, l[m]? = some r → K < V + (fFull r).size from fun r hr => by
                rw [List.getElem?_eq_none (by rw [← HN.out]; omega)] at hr; cases hr)
              go_wp2_with fail
              have hcut := cut_law l HOK.out K m (by rw [← HS.out]; exact hKS) (by rw [← HN.out]; exact hm) (by rw [← HVV.out]; exact hV) (by rw [← HVV.out]; exact HNX.out)
              rw [← HVV.out, ← HS.out] at hcut
              have HCUT := hid' hcut
              clear hcut
              refine (log_Parse (S.extract 0 K) _ (by rw [ByteArray.size_extract]; omega)).mono ?_
              rintro e w7 ⟨k, v, rfl, hend, hlen, hO, hB7⟩
              obtain ⟨q1, q2, q3⟩ := HCUT.out
              have hlm : (l.take m).length = m := by rw [List.length_take, ← HN.out]; omega
              have hkm := one_lens hend (j := m) (by rw [q1]; exact q2) hlen (by rw [q1]; exact hlm)
              subst hkm
              rw [q1] at hO ⊢
              dsimp only at hO ⊢
              rw [q3]
              obtain ⟨A7, c7, rfl, -, -, hr7⟩ := own_rd hO
              have HR7 := hid' (rd_recS hr7)
              have HX7 := hid' (bel_then HX.out hB7)
              have HSa := hid' (fun W h h' => ref05_Same A7 A c7 c (l.take k) (l.take k) W h h')
              rw [hlm, sameR_self] at HSa
              have HBd := hid' (fun W h => ref06_Build A c l W h (by rw [← HN.out]; omega) (fun r hr => ⟨(HT.out r hr).1, (HT.out r hr).2, (HOK.out r hr).1⟩))
              rw [← HN.out, ← HS.out] at HBd
              have hsl := cut_h (P := Try.prog) 51 37 3 Try.underlying51 (by kernel_rfl) A i c k (by omega)
              clear hO hr7 hend hlen q1 q2 q3 hlm hB7
              by_cases hVK : V = K
              · subst hVK
                rw [if_pos rfl]
                go_wp2_with (first
                  | (go_at_call 35; refine (HBd.out _ (HRW.out.below HX7.out)).mono ?_; rintro e w8 ⟨rfl, hB8⟩)
                  | (go_at_call 33; refine (HSa.out _ (HR7.out.below hB8) ((((HRW.out.below HX7.out).below hB8)).take k) (by omega) (by omega)).mono ?_; rintro e w9 ⟨rfl, hD9⟩))
                go_ret
                exact ⟨rfl, bel_then (bel_then (bel_then HLW.out HX7.out) hB8) hD9.below⟩
              · rw [if_neg hVK]
                have hVK' : ((V : Int) == (K : Int)) = false := by rw [beq_eq_false_iff_ne]; omega
                clear hVK
                go_wp2_with (first
                  | (go_at_call 35; refine (HBd.out _ (HRW.out.below HX7.out)).mono ?_; rintro e w8 ⟨rfl, hB8⟩)
                  | (go_at_call 33; refine (HSa.out _ (HR7.out.below hB8) ((((HRW.out.below HX7.out).below hB8)).take k) (by omega) (by omega)).mono ?_; rintro e w9 ⟨rfl, hD9⟩))
                go_ret
                exact ⟨rfl, bel_then (bel_then (bel_then HLW.out HX7.out) hB8) hD9.below⟩
        · have e1 : (er != 0) = true := by simpa using h0
          have hS : S = ⟨#[]⟩ := HSS.out.trans (by unfold bEnc; rw [if_neg (by rw [← HER.out]; exact h0)])
          subst hS
          clear h0
          go_wp2
          go_ret
          exact ⟨rfl, HLW.out⟩
end Go.Proofs.Ytjdjpljjahnhjaa
