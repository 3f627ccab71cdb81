
/- One log behind another: the law, walked. No condition. -/
import Derived.Test.YteifpdpppndipaaLawLogB
import Derived.Test.YteifpdpppndipaaApp
namespace Go.Proofs.Yteifpdpppndipaa
set_option maxRecDepth 100000
set_option linter.unusedSimpArgs false
open Go.RowKit
set_option linter.unusedVariables false
set_option linter.unusedSimpArgs false

theorem spWL : fCheck (1, 0, ⟨#[]⟩) = 0 ∧ (fFull (1, 0, ⟨#[]⟩)).size = 7 ∧ fEncS (1, 0, ⟨#[]⟩) = fFull (1, 0, ⟨#[]⟩) := by
  have hv : (vput (vfold 0)).length = 1 := by rw [show vfold 0 = 0 from rfl, vput_lt (by decide)]; rfl
  have hb : (recBody (1, 0, ⟨#[]⟩)).size = 2 := by rw [recBody_size]; show 1 + (vput (vfold 0)).length + 0 = 2; omega
  have hc : fCheck (1, 0, ⟨#[]⟩) = 0 := by unfold fCheck; rw [if_pos (by rfl), if_neg (by omega)]
  refine ⟨hc, ?_, by unfold fEncS; rw [if_pos hc]⟩
  rw [fFull_size, hb, vput_lt (by decide)]
  rfl
theorem apart_eq {x y : Rec} (hx : rOk x) (hy : rOk y) (hne : x ≠ y) {k : Nat} (hk : k = min (fFull x).size (fFull y).size) : (((fFull x).extract 0 k).toList == ((fFull y).extract 0 k).toList) = false := by
  rw [beq_eq_false_iff_ne]
  intro h
  rw [ByteArray.toList_eq, ByteArray.toList_eq] at h
  exact hne ((full_apart hx hy hk).1 (bl_inj h))
theorem recC_len (l : List Rec) : (recC l).length = l.length * 3 := by
  induction l with
  | nil => rfl
  | cons r l ih => show (fRec r ++ recC l).length = _; rw [List.length_append, ih]; simp [fRec]; omega
theorem recC_app (a b : List Rec) : recC (a ++ b) = recC a ++ recC b := by unfold recC; rw [List.flatMap_append]
theorem recC_one (l : List Rec) : ∀ u ∈ recC l, u.oneCell' = true := by
  intro u hu
  unfold recC at hu
  rw [List.mem_flatMap] at hu
  obtain ⟨r, _, h⟩ := hu
  exact fRec_one r u h
theorem RdS.rd {w : World} {A : Option Addr} {l : List Rec} (h : RdS w A 3 fRec l) : Rd w A (recC l) := by
  intro k u hk
  have hlt : k < (recC l).length := (List.getElem?_eq_some_iff.1 hk).1
  rw [recC_len] at hlt
  obtain ⟨x, hx⟩ : ∃ x, l[k / 3]? = some x := ⟨_, List.getElem?_eq_getElem (by omega)⟩
  obtain ⟨ad, e, _, hc⟩ := h _ _ hx
  obtain ⟨g0, g1, g2⟩ := recC_get hx
  refine ⟨ad, e, ?_⟩
  have h3 : k % 3 = 0 ∨ k % 3 = 1 ∨ k % 3 = 2 := by omega
  rcases h3 with h3 | h3 | h3
  · have hk' : k = k / 3 * 3 + 0 := by omega
    have := hc 0 _ rfl
    rw [add_add', ← hk'] at this
    rw [show k / 3 * 3 = k by omega, hk] at g0
    rw [this, ← Option.some.inj g0]
  · have hk' : k = k / 3 * 3 + 1 := by omega
    have := hc 1 _ rfl
    rw [add_add', ← hk'] at this
    rw [show k / 3 * 3 + 1 = k by omega, hk] at g1
    rw [this, ← Option.some.inj g1]
  · have hk' : k = k / 3 * 3 + 2 := by omega
    have := hc 2 _ rfl
    rw [add_add', ← hk'] at this
    rw [show k / 3 * 3 + 2 = k by omega, hk] at g2
    rw [this, ← Option.some.inj g2]
theorem recInfo : (Try.prog.info? 40).map (fun i => (i.zero, i.size, i.bytes)) = some (some (.agg #[.int .i64 0, .int .i64 0, .string ⟨#[]⟩]), 3, 32) := by kernel_rfl
/-- append([]Record{}, l...) -/
theorem cat_a (W : World) (ty : TypeId) (A : Option Addr) (n c : Nat) (l : List Rec) (hn : n = l.length) (hr : RdS W A 3 fRec l) (hl : n ≤ 100000) :
    ∃ v' w', (Builtin.append_ #[36, 36] ty #[.slice (some ⟨W.heap.size, 0, none⟩) 0 0, .slice A n c]).run Try.prog (W.alloc (.cells #[] 40)) = .ok v' w' ∧ Hid (w'.ownsRow W.heap.size 40 3 v' n (recC l) ∧ Below W.heap.size W w') := by
  subst hn
  have hB := bel_alloc (bel_refl W) (.cells #[] 40)
  obtain ⟨v', w', h1, h2, h3, h4⟩ := run_app (P := Try.prog) (W.alloc (.cells #[] 40)) W.heap.size 36 ty 40 _ 3 32 Try.underlying36 recInfo rfl (by decide) _ 0 [] (own_lit0 W W.heap.size 40 3 (Nat.le_refl _)) A l.length c (recC l) (recC_len l) (hr.below hB).rd (recC_one l) (by unfold maxLen; omega) (by omega) hB.size
  rw [Nat.zero_add, List.nil_append] at h2
  refine ⟨v', w', h1, h2, bel_mod hB (grown_mod h3) (fun i hi e => ?_)⟩
  simp [Value.ownBlock] at e; omega
/-- append(row, more...) -/
theorem cat_b (w0 W : World) (ty : TypeId) (v : Value) (n m : Nat) (l1 l2 : List Rec) (A : Option Addr) (c : Nat) (ho : W.ownsRow w0.heap.size 40 3 v n (recC l1)) (hB : Below w0.heap.size w0 W) (hr : RdS W A 3 fRec l2) (hm : m = l2.length) (hn : n ≤ 100000) (hl : m ≤ 100000) :
    ∃ v' w', (Builtin.append_ #[36, 36] ty #[v, .slice A m c]).run Try.prog W = .ok v' w' ∧ Hid (w'.ownsRow w0.heap.size 40 3 v' (n + m) (recC (l1 ++ l2)) ∧ Below w0.heap.size w0 w') := by
  subst hm
  obtain ⟨v', w', h1, h2, h3, h4⟩ := run_app (P := Try.prog) W w0.heap.size 36 ty 40 _ 3 32 Try.underlying36 recInfo rfl (by decide) v n _ ho A l2.length c (recC l2) (recC_len l2) hr.rd (recC_one l2) (by unfold maxLen; omega) (by omega) hB.size
  rw [← recC_app] at h2
  exact ⟨v', w', h1, h2, bel_mod hB (grown_mod h3) (fun i hi e => by have := own_base' ho i e; omega)⟩
theorem wpList_append_exg {P : Program} {w : World} {ops : Array Oper} {rest : List Oper} {o : Oper} {a : Act} {Q : Exit → Act → World → Prop} (hw : Region.wanted o (yielded ops a.tmps) = true) (s x : Operand) (t t' : TypeId)
    (ho : o.op = .call { callee := .builtin .append, args := #[s, x], argTypes := #[t, t'] }) (u v : Value) (hs : a.eval s = u) (hx : a.eval x = v) (φ : Value → World → Prop)
    (hr : ∃ v' w', (Builtin.append_ #[t, t'] o.type #[u, v]).run P w = .ok v' w' ∧ φ v' w') (h : ∀ v' w', φ v' w' → wpList P ops Q rest (a.put o.dst v') w') : wpList P ops Q (o :: rest) a w :=
  BigFrame.wpList_want hw fun _ hK => wp_append_ex2 w s x t t' ho u v hs hx φ hr fun v' w' hw => hK _ _ (h v' w' hw)
set_option maxHeartbeats 8000000 in
theorem wholeLogs (A : Option Addr) (c : Nat) (l : List Rec) (more : ByteArray) (w : World)
    (hr : ∀ j x, l[j]? = some x → ∃ ad row, A = some ad ∧ RRec w row x ∧ row.length = 3 ∧ ∀ i u, row[i]? = some u → w.cell? ((ad.add (j * 3)).add i) = some u) (hn : l.length ≤ maxLen) (hm : more.size ≤ maxLen) :
    Calls Try.prog 4 #[.slice A l.length c, .string more] w fun e w' => e = .returned (.bool true) ∧ Below w.heap.size w w' := by
  have hn' : l.length ≤ 9223372036854775807 := hn
  have hm' : more.size ≤ 9223372036854775807 := hm
  have HR := hid' (rowR.rds hr)
  have HI := hid' (rowR.i64 hr)
  clear hr hn hm
  obtain ⟨z1, z2, z3⟩ := spWL
  have HE0 := hid' (fun W => frame_Encode (1, 0, ⟨#[]⟩) W (by show I64 0; unfold I64; decide) (by show (0 : Nat) ≤ 200000; omega))
  rw [z1, z3] at HE0
  unfold recV at HE0
  simp only at HE0
  obtain ⟨F0, hF0⟩ : ∃ F0, F0 = fFull (1, 0, ⟨#[]⟩) := ⟨_, rfl⟩
  rw [← hF0] at HE0 z2
  clear z1 z3 hF0
  by_cases hbig : 20 < l.length
  · go_enter Try.func4, Try.ntmps4
    go_wp2_with (go_at_call 15; refine (HE0.out _).mono ?_; rintro e w1 ⟨rfl, hB1⟩)
    go_ret
    exact ⟨rfl, hB1⟩
  by_cases hbig2 : 500 < more.size
  · go_enter Try.func4, Try.ntmps4
    go_wp2_with (go_at_call 15; refine (HE0.out _).mono ?_; rintro e w1 ⟨rfl, hB1⟩)
    all_goals
      go_ret
      exact ⟨rfl, hB1⟩
  obtain ⟨n, hn⟩ : ∃ n, n = l.length := ⟨_, rfl⟩
  rw [← hn] at hbig hn' ⊢
  have HN := hid' hn
  clear hn
  go_enter Try.func4, Try.ntmps4
  go_wp2_with (go_at_call 15; refine (HE0.out _).mono ?_; rintro e w1 ⟨rfl, hB1⟩)
  go_loopw [48] (fun v48 wr => ∃ i : Nat, i ≤ n ∧ v48 = .int .i64 i ∧ (∀ r ∈ l.take i, r.2.2.size ≤ 100) ∧ Below w.heap.size w wr) (fun v48 _ => n - (intOf v48).toNat)
  case atStart => exact ⟨0, Nat.zero_le _, rfl, fun x hx => by simp at hx, hB1⟩
  case round =>
    obtain ⟨i, hi, rfl, hsm, hL⟩ := hrel
    have HL := hid' hL
    have HSM := hid' hsm
    clear hL hsm
    by_cases hlt : i < n
    · obtain ⟨r, hx⟩ : ∃ x, l[i]? = some x := ⟨_, List.getElem?_eq_getElem (by rw [← HN.out]; exact hlt)⟩
      obtain ⟨ad, rfl, a0, a1, a2⟩ := (HR.out.below HL.out).rec hx
      obtain ⟨hI, hxm⟩ := HI.out r (List.mem_of_getElem? hx)
      have hxm' : r.2.2.size ≤ 9223372036854775807 := hxm
      have HX := hid' hx
      by_cases h100 : 100 < r.2.2.size
      · obtain ⟨kd, tm, x⟩ := r
        simp only at h100 a0 a1 a2 hxm'
        clear hx hxm hI
        go_wp2
        go_ret
        exact ⟨rfl, bel_alloc HL.out _⟩
      have HSM2 := hid' (show ∀ y ∈ l.take (i + 1), y.2.2.size ≤ 100 from fun y hy => by
        rw [take_snoc' HX.out] at hy
        rcases List.mem_append.1 hy with hy | hy
        · exact HSM.out y hy
        · rw [List.mem_singleton] at hy; subst hy; omega)
      obtain ⟨kd, tm, x⟩ := r
      simp only at h100 a0 a1 a2 hxm'
      have HL1 := hid' (bel_alloc HL.out (.cells #[.int .i64 kd, .int .i64 tm, .string x] 40))
      clear hx hxm hI
      go_wp2
      go_roundw
      case rel => exact ⟨i + 1, by omega, by go_num, HSM2.out, HL1.out⟩
      case measure => first | (simp [intOf]; done) | (simp [intOf]; omega)
    obtain rfl : i = n := by omega
    have hall : l.take i = l := List.take_of_length_le (by rw [← HN.out]; omega)
    have hsm := HSM.out
    rw [hall] at hsm
    have HSML := hid' hsm
    have HT := hid' (show ∀ r ∈ l, I64 r.2.1 ∧ r.2.2.size ≤ 200000 from fun r hr => ⟨(HI.out r hr).1, Nat.le_trans (hsm r hr) (by omega)⟩)
    have HBu := hid' (fun W h => log_Build A c l W h)
    rw [← HN.out] at HBu
    have HRL := hid' (HR.out.below HL.out)
    by_cases her : bErr l = 0
    case neg =>
      have e1 : (bErr l != 0) = true := by simpa using her
      have HES := hid' (HBu.out _ HRL.out (by omega) HT.out)
      generalize bErr l = er at *
      generalize bEnc l = S at *
      clear hall hsm her
      go_wp2_with (go_at_call 16; refine (HES.out).mono ?_; rintro e w2 ⟨rfl, hB2⟩)
      go_ret
      exact ⟨rfl, bel_then HL.out hB2⟩
    have HOK := hid' (show ∀ r ∈ l, rOk r from fun r hr => ⟨bErr_zero her r hr, (HT.out r hr).1⟩)
    obtain ⟨S, hS⟩ : ∃ S, S = bCat l := ⟨_, rfl⟩
    have hes : bEnc l = S := by unfold bEnc; rw [if_pos her, hS]
    rw [her, hes] at HBu
    have hsz := bCat_size_small (l := l) (fun r hr => ⟨(HT.out r hr).1, HSML.out r hr⟩)
    rw [← hS, ← HN.out] at hsz
    have HS := hid' hS
    clear hall hsm her hes hS
    have hj : S.size + more.size ≤ 9223372036854775807 := by omega
    obtain ⟨T, hT⟩ : ∃ T, T = S ++ more := ⟨_, rfl⟩
    have hTs : T.size ≤ 200000 := by rw [hT, size_app]; omega
    have HP := hid' (fun W => log_Parse T W hTs)
    rw [hT] at HP
    have HTT := hid' hT
    clear hT
    go_wp2_with fail
    refine (HBu.out _ HRL.out (by omega) HT.out).mono ?_
    rintro e w2 ⟨rfl, hB2⟩
    go_wp2_with fail
    refine (log_Parse more _ (by omega)).mono ?_
    rintro e w3 ⟨k1, v1, rfl, hend1, hlen1, hO1, hB3⟩
    go_wp2_with fail
    refine (HP.out _).mono ?_
    rintro e w4 ⟨k2, v2, rfl, hend2, hlen2, hO2, hB4⟩
    have hsh := pSt_shift l more HOK.out k1
    rw [← HS.out, ← HN.out] at hsh
    have hpe := pErr_shift S more (pSt more k1).2
    have hpl := pLive_shift S more (pSt more k1).2
    have hkm := one_lens hend2 (j := i + k1) (by rw [hsh]; show ¬ pLive _ (S.size + _); rw [hpl]; exact hend1) hlen2 (by rw [hsh]; simp only [List.length_append]; rw [← HN.out, hlen1])
    subst hkm
    rw [hsh] at hO2 ⊢
    dsimp only at hO2 ⊢
    rw [hpe]
    have hv1 := pSt_le more (by omega) k1
    obtain ⟨V1, hV1⟩ : ∃ V1, V1 = (pSt more k1).2 := ⟨_, rfl⟩
    obtain ⟨L1, hL1⟩ : ∃ L1, L1 = (pSt more k1).1 := ⟨_, rfl⟩
    rw [← hL1] at hO1 hO2 hlen1
    rw [← hV1] at hv1 ⊢
    obtain ⟨er, her⟩ : ∃ er, er = pErr more V1 := ⟨_, rfl⟩
    rw [← her]
    obtain ⟨A1, c1, rfl, -, -, hr1⟩ := own_rd hO1
    obtain ⟨A2, c2, rfl, -, -, hr2⟩ := own_rd hO2
    have HR4 := hid' (((HRL.out.below hB2).below hB3).below hB4)
    have HM1 := hid' (hr1.below hB4)
    have HM2 := hid' (rd_recS hr2)
    have HL4 := hid' (bel_then (bel_then (bel_then HL.out hB2) hB3) hB4)
    have HLEN1 := hid' hlen1
    have hk1 : k1 ≤ 100000 := by
      have hle : ∀ j, (pSt more j).1.length ≤ (pSt more j).2 := by
        intro j
        induction j with
        | zero => exact Nat.zero_le _
        | succ j ih =>
          show (pStep more (pSt more j)).1.length ≤ (pStep more (pSt more j)).2
          by_cases h : pLive more (pSt more j).2
          · obtain ⟨r, n, _, h0, _, h2, _⟩ := pStep_live h (by omega)
            rw [h2]; simp only [List.length_append, List.length_singleton]; omega
          · rw [pStep_stay h]; exact ih
      have := hle k1
      rw [← hL1, ← hV1, hlen1] at this
      omega
    have HSa := hid' (fun A c => ref05_Same A2 A c2 c (l ++ L1) (l ++ L1))
    rw [sameR_self, List.length_append, hlen1, ← HN.out] at HSa
    have hMM : ((S.size + V1 : Nat) : Int) = (S.size : Int) + (V1 : Int) := by omega
    clear hB2 hB3 hB4 hO1 hO2 hr1 hr2 hend1 hend2 hlen1 hlen2 hsh hpe hpl hV1 hL1 her
    have e0 : (er != er) = false := by simp
    have hin : i ≤ 100000 := by omega
    go_wp2_with (first
      | (at_builtin; refine wpList_append_exg (by first | rfl | go_simp) _ _ 36 36 rfl (.slice (some ⟨w4.heap.size, 0, none⟩) 0 0) (.slice A i c) rfl rfl _ (cat_a w4 _ A i c l HN.out HR4.out hin) ?_; intro v5 w5 hw5)
      | (at_builtin; refine wpList_append_exg (by first | rfl | go_simp) _ _ 36 36 rfl v5 (.slice A1 k1 c1) rfl rfl _ (cat_b w4 w5 _ v5 i k1 l L1 A1 c1 hw5.out.1 hw5.out.2 (rd_recS (HM1.out.below hw5.out.2)) HLEN1.out.symm hin hk1) ?_; intro v6 w6 hw6; obtain ⟨A6, c6, rfl, -, -, hr6⟩ := own_rd hw6.out.1; have HR6 := hid' (rd_recS hr6); clear hr6)
      | (go_at_call 18; refine (HSa.out A6 c6 w6 (HM2.out.below hw6.out.2) HR6.out (by omega) (by omega)).mono ?_; rintro e w7 ⟨rfl, hD7⟩))
    have HL7 := hid' (bel_then (bel_then HL4.out hw6.out.2) hD7.below)
    have HR7 := hid' ((HR4.out.below hw6.out.2).below hD7.below)
    have HENC := hid' (show ∀ r ∈ l, ∀ W, Calls Try.prog 15 #[recV r] W fun e w' => e = .returned (.tuple #[.string (fFull r), .int .i64 0]) ∧ Below W.heap.size W w' from fun r hr W => by
      have h := frame_Encode r W (HT.out r hr).1 (HT.out r hr).2
      have hc := (HOK.out r hr).1
      rw [show fEncS r = fFull r from by unfold fEncS; rw [if_pos hc], hc] at h
      exact h)
    clear hsz hj hTs hin hk1 hMM e0 hv1 HSML HSa HM1 HM2 hw5 hw6 HP HTT HBu HRL HR4 HL4 HLEN1 HR6 hD7 z2 HE0
    go_loopw [101] (fun v101 wr => ∃ p : Nat, p ≤ i ∧ v101 = .int .i64 p ∧ Below w7.heap.size w7 wr) (fun v101 _ => i - (intOf v101).toNat)
    case atStart => exact ⟨0, Nat.zero_le _, rfl, bel_refl _⟩
    case round =>
      obtain ⟨p, hp, rfl, hLp⟩ := hrel
      have HLp := hid' hLp
      clear hLp
      by_cases hlt1 : p < i
      · obtain ⟨x, hx⟩ : ∃ x, l[p]? = some x := ⟨_, List.getElem?_eq_getElem (by rw [← HN.out]; exact hlt1)⟩
        obtain ⟨ad, rfl, a0, a1, a2⟩ := (HR7.out.below HLp.out).rec hx
        have HXM := hid' (List.mem_of_getElem? hx)
        have HX := hid' hx
        have HEX := hid' (HENC.out x HXM.out)
        have HPX := hid' (HOK.out x HXM.out)
        obtain ⟨PX, hPX⟩ : ∃ PX, PX = fFull x := ⟨_, rfl⟩
        rw [← hPX] at HEX
        have HFX := hid' hPX
        obtain ⟨kd, tm, tx⟩ := x
        unfold recV at HEX
        simp only at a0 a1 a2 HEX
        have HKA := hid' (Blk.new_ wr 40 #[.int .i64 kd, .int .i64 tm, .string tx])
        have HLA := hid' (bel_alloc HLp.out (.cells #[.int .i64 kd, .int .i64 tm, .string tx] 40))
        clear hx hPX
        go_wp2
        generalize (wr.alloc (.cells #[.int .i64 kd, .int .i64 tm, .string tx] 40)) = wa at *
        obtain ⟨ba, hba⟩ : ∃ ba, ba = wr.heap.size := ⟨_, rfl⟩
        rw [← hba] at HKA ⊢
        clear hba a0 a1 a2
        go_loopw [107] (fun v107 wr => ∃ q : Nat, q ≤ i ∧ v107 = .int .i64 q ∧ Blk wr ba 40 #[.int .i64 kd, .int .i64 tm, .string tx] ∧ Below w7.heap.size w7 wr) (fun v107 _ => i - (intOf v107).toNat)
        case atStart => exact ⟨0, Nat.zero_le _, rfl, HKA.out, HLA.out⟩
        case round =>
          obtain ⟨q, hq, rfl, hKq, hLq⟩ := hrel
          have HKq := hid' hKq
          have HLq := hid' hLq
          clear hKq hLq
          by_cases hlt2 : q < i
          · obtain ⟨y, hy⟩ : ∃ y, l[q]? = some y := ⟨_, List.getElem?_eq_getElem (by rw [← HN.out]; exact hlt2)⟩
            obtain ⟨ad', e', a0, a1, a2⟩ := (HR7.out.below HLq.out).rec hy
            cases e'
            have HYM := hid' (List.mem_of_getElem? hy)
            have HEY := hid' (HENC.out y HYM.out)
            have HPY := hid' (HOK.out y HYM.out)
            obtain ⟨PY, hPY⟩ : ∃ PY, PY = fFull y := ⟨_, rfl⟩
            rw [← hPY] at HEY
            have HFY := hid' hPY
            obtain ⟨kd2, tm2, tx2⟩ := y
            unfold recV at HEY
            simp only at a0 a1 a2 HEY
            have HKY := hid' (Blk.new_ wr 40 #[.int .i64 kd2, .int .i64 tm2, .string tx2])
            have HLY := hid' (bel_alloc HLq.out (.cells #[.int .i64 kd2, .int .i64 tm2, .string tx2] 40))
            have HKX := hid' (HKq.out.below (bel_alloc (bel_refl wr) (.cells #[.int .i64 kd2, .int .i64 tm2, .string tx2] 40)))
            have p0 : ((wr.alloc (.cells #[.int .i64 kd2, .int .i64 tm2, .string tx2] 40))).cell? ⟨ba, 0, none⟩ = some (.int .i64 kd) := (HKX.out).cell 0
            have p1 : ((wr.alloc (.cells #[.int .i64 kd2, .int .i64 tm2, .string tx2] 40))).cell? ⟨ba, 1, none⟩ = some (.int .i64 tm) := (HKX.out).cell 1
            have p2 : ((wr.alloc (.cells #[.int .i64 kd2, .int .i64 tm2, .string tx2] 40))).cell? ⟨ba, 2, none⟩ = some (.string tx) := (HKX.out).cell 2
            clear hy hPY
            go_wp2_with fail
            refine (HEX.out _).mono ?_
            rintro e w2 ⟨rfl, hB2⟩
            have HK2 := hid' (HKX.out.below hB2)
            have HY2 := hid' (HKY.out.below hB2)
            have HL2 := hid' (bel_then HLY.out hB2)
            clear p0 p1 p2 a0 a1 a2 hB2 HKX HKY
            obtain ⟨bb, hbb⟩ : ∃ bb, bb = wr.heap.size := ⟨_, rfl⟩
            rw [← hbb] at HY2 ⊢
            clear hbb
            have r0 : (w2).cell? ⟨bb, 0, none⟩ = some (.int .i64 kd2) := (HY2.out).cell 0
            have r1 : (w2).cell? ⟨bb, 1, none⟩ = some (.int .i64 tm2) := (HY2.out).cell 1
            have r2 : (w2).cell? ⟨bb, 2, none⟩ = some (.string tx2) := (HY2.out).cell 2
            go_wp2_with fail
            refine (HEY.out _).mono ?_
            rintro e w3 ⟨rfl, hB3⟩
            have HK3 := hid' (HK2.out.below hB3)
            have HY3 := hid' (HY2.out.below hB3)
            have HL3 := hid' (bel_then HL2.out hB3)
            clear r0 r1 r2 hB3 HK2 HY2
            have p0 : (w3).cell? ⟨ba, 0, none⟩ = some (.int .i64 kd) := (HK3.out).cell 0
            have p1 : (w3).cell? ⟨ba, 1, none⟩ = some (.int .i64 tm) := (HK3.out).cell 1
            have p2 : (w3).cell? ⟨ba, 2, none⟩ = some (.string tx) := (HK3.out).cell 2
            have r0 : (w3).cell? ⟨bb, 0, none⟩ = some (.int .i64 kd2) := (HY3.out).cell 0
            have r1 : (w3).cell? ⟨bb, 1, none⟩ = some (.int .i64 tm2) := (HY3.out).cell 1
            have r2 : (w3).cell? ⟨bb, 2, none⟩ = some (.string tx2) := (HY3.out).cell 2
            go_wp2_with fail
            obtain ⟨K, hK⟩ : ∃ K, K = min PX.size PY.size := ⟨_, rfl⟩
            have hKK : min (PX.size : Int) (PY.size : Int) = (K : Int) := by omega
            have hk1 : (K : Int) ≤ (PX.size : Int) := by omega
            have hk2 : (K : Int) ≤ (PY.size : Int) := by omega
            rw [hKK]
            have HK := hid' hK
            clear hK hKK
            by_cases hxy : ((kd, tm, tx) : Rec) = (kd2, tm2, tx2)
            · have e1 : kd = kd2 := by injection hxy
              have e2 : tm = tm2 := by injection hxy with _ h; injection h
              have e3 : tx = tx2 := by injection hxy with _ h; injection h
              subst e1 e2 e3
              have hPP : PX = PY := by rw [HFX.out, HFY.out]
              subst hPP
              clear hxy
              go_quiet (fail)
              all_goals
                go_wp2
                go_roundw
                case rel => exact ⟨q + 1, by omega, by go_num, by first | exact HK3.out | exact HK3.out.below (bel_drewN (bel_refl _) _), by first | exact HL3.out | exact bel_drewN HL3.out _⟩
                case measure => first | (simp [intOf]; done) | (simp [intOf]; omega)
            · have hne := apart_eq HPX.out HPY.out hxy (k := K) (by rw [← HFX.out, ← HFY.out]; exact HK.out)
              rw [← HFX.out, ← HFY.out] at hne
              rcases rec_part hxy with h | ⟨h, h'⟩ | ⟨h, h', h''⟩
              · have h1 : (kd == kd2) = false := by simpa using h
                clear h hxy
                go_quiet (fail)
                all_goals
                  go_wp2
                  go_roundw
                  case rel => exact ⟨q + 1, by omega, by go_num, by first | exact HK3.out | exact HK3.out.below (bel_drewN (bel_refl _) _), by first | exact HL3.out | exact bel_drewN HL3.out _⟩
                  case measure => first | (simp [intOf]; done) | (simp [intOf]; omega)
              · have h1 : (tm == tm2) = false := by simpa using h'
                simp only at h
                subst h
                clear h' hxy
                go_quiet (fail)
                all_goals
                  go_wp2
                  go_roundw
                  case rel => exact ⟨q + 1, by omega, by go_num, by first | exact HK3.out | exact HK3.out.below (bel_drewN (bel_refl _) _), by first | exact HL3.out | exact bel_drewN HL3.out _⟩
                  case measure => first | (simp [intOf]; done) | (simp [intOf]; omega)
              · have h1 : (tx.toList == tx2.toList) = false := by rw [beq_eq_false_iff_ne]; intro e; rw [ByteArray.toList_eq, ByteArray.toList_eq] at e; exact h'' (bl_inj e)
                simp only at h h'
                subst h h'
                clear h'' hxy
                go_quiet (fail)
                all_goals
                  go_wp2
                  go_roundw
                  case rel => exact ⟨q + 1, by omega, by go_num, by first | exact HK3.out | exact HK3.out.below (bel_drewN (bel_refl _) _), by first | exact HL3.out | exact bel_drewN HL3.out _⟩
                  case measure => first | (simp [intOf]; done) | (simp [intOf]; omega)
          · go_wp2
            go_roundw
            case rel => exact ⟨p + 1, by omega, by go_num, HLq.out⟩
            case measure => first | (simp [intOf]; done) | (simp [intOf]; omega)
      · go_wp2
        go_ret
        exact ⟨rfl, bel_then HL7.out HLp.out⟩
end Go.Proofs.Yteifpdpppndipaa
