
/- What the functions of percent do. No condition. -/
import Derived.Test.YtckndjgdfhbgcaaDoorLawHistB
import Derived.Test.YtckndjgdfhbgcaaDoorBounded10
import Derived.Test.YtckndjgdfhbgcaaDoorRingIntC
namespace Go.Proofs.YtckndjgdfhbgcaaDoor
set_option maxRecDepth 100000
set_option linter.unusedSimpArgs false
open Go.RowKit
set_option linter.unusedVariables false

theorem HistI.put {w w' : World} {g o B : Nat} {T : TypeId} {cs cs' : Array Value} {v : Value} {bs : List (Int × Nat)} (h : HistI w g o T cs B v bs) (hb : Blk w' g T cs') (hm : Mod (fun k => k = g) w w') (h0 : cs'[o]? = some v) (h1 : cs'[o + 1]? = some (.int .i64 (totB bs : Nat))) : HistI w' g o T cs' B v bs := by
  have hne := h.ne
  obtain ⟨a1, a2, a3, a4, a5, a6, a7, a8⟩ := h
  exact ⟨hb, h0, h1, own_mod a4 hm (fun k hk e => hne (by rw [hk, e])), a5, a6, Nat.le_trans a7 hm.size, a8⟩
def pLag (q : List Int) (p : Int) : Int := (lstOf (percP q p) q).1
theorem I64.pLag {q : List Int} (h : ∀ x ∈ q, I64 x) (p : Int) : I64 (pLag q p) := by
  obtain ⟨s1, s2⟩ := lst_spec (percP q p) q
  unfold Go.Proofs.YtckndjgdfhbgcaaDoor.pLag
  cases hb : (lstOf (percP q p) q).2
  · rw [(s1 hb).1]; unfold I64; decide
  · exact h _ (s2 hb).1
def pushQ (n : Nat) (q : List Int) (x : Int) : List Int := if q.length < n then q ++ [x] else q.tail ++ [x]
def pgCells (p : Int) (rg : Nat) (v : Value) (all : Nat) (a2 : Int) (s2 : Bool) (a1 : Int) (s1 : Bool) : Array Value :=
  #[.int .i64 p, .pointer (some ⟨rg, 0, none⟩), v, .int .i64 (all : Int), .int .i64 a2, .bool s2, .int .i64 a1, .bool s1]
/-- Such a way: its blocks, the lags that count, how far time has come, the latest. -/
def PGen (w : World) (B g rg rb : Nat) (v : Value) (p : Int) (n : Nat) (q : List Int) (now most : Int) : Prop :=
  ∃ (bs : List (Int × Nat)) (a2 : Int) (s2 : Bool) (a1 : Int) (s1 : Bool), HistI w g 2 53 (pgCells p rg v (totB bs) a2 s2 a1 s1) B v bs ∧ RingInt w rg rb n q ∧ HistOf bs q ∧ clNow a1 s1 = now ∧ clNow a2 s2 = most ∧ I64 a1 ∧ I64 a2 ∧ (0 ≤ p ∧ p ≤ 100) ∧ n ≤ 5000 ∧ (∀ x ∈ q, I64 x) ∧ B ≤ g ∧ B ≤ rg ∧ B ≤ rb
def PF (g rg rb : Nat) (v : Value) : Nat → Prop := fun k => k = g ∨ k = rg ∨ k = rb ∨ v.ownBlock = some k
section
variable {w w' : World} {B g rg rb : Nat} {v : Value} {p : Int} {n : Nat} {q : List Int} {now most : Int}
theorem RingInt.blks {w : World} {g b n : Nat} {q : List Int} (h : RingInt w g b n q) : (∃ cs, Blk w g 63 cs) ∧ ∃ cs, Blk w b 3 cs := by
  obtain ⟨first, cs, h1, h2, _⟩ := h
  exact ⟨⟨_, h1⟩, ⟨_, h2⟩⟩
theorem PGen.mod {S : Nat → Prop} (h : PGen w B g rg rb v p n q now most) (hm : Mod S w w') (hs : ∀ k, PF g rg rb v k → ¬ S k) : PGen w' B g rg rb v p n q now most := by
  obtain ⟨bs, a2, s2, a1, s1, h1, h2, h3⟩ := h
  exact ⟨bs, a2, s2, a1, s1, h1.mod hm (hs g (.inl rfl)) (fun k hk => hs k (.inr (.inr (.inr hk)))), h2.mod hm (hs rg (.inr (.inl rfl))) (hs rb (.inr (.inr (.inl rfl)))), h3⟩
theorem PGen.below (h : PGen w B g rg rb v p n q now most) (hb : Below w.heap.size w w') : PGen w' B g rg rb v p n q now most :=
  h.mod (Mod.of_below (S := fun _ => False) hb) (fun _ _ h => h)
theorem PGen.bound (h : PGen w B g rg rb v p n q now most) : (∀ k, PF g rg rb v k → B ≤ k ∧ k < w.heap.size) ∧ I64 now ∧ I64 most ∧ q.length ≤ n ∧ 0 < n := by
  obtain ⟨bs, a2, s2, a1, s1, h1, h2, h3, h4, h5, h6, h7, h8, h9, h10, h11, h12, h13⟩ := h
  obtain ⟨⟨c1, b1⟩, ⟨c2, b2⟩⟩ := h2.blks
  have := h2.len
  refine ⟨fun k hk => ?_, by rw [← h4]; exact I64.clNow h6, by rw [← h5]; exact I64.clNow h7, this.1, this.2⟩
  rcases hk with e | e | e | e
  · subst e; exact ⟨h11, h1.1.lt⟩
  · subst e; exact ⟨h12, b1.lt⟩
  · subst e; exact ⟨h13, b2.lt⟩
  · exact ⟨own_base' h1.2.2.2.1 k e, own_lt' h1.2.2.2.1 k e⟩
theorem percent_Now (h : PGen w B g rg rb v p n q now most) :
    Calls Tryd.prog 17 #[.pointer (some ⟨g, 0, none⟩)] w fun e w' => e = .returned (.int .i64 now) ∧ w = w' := by
  obtain ⟨bs, a2, s2, a1, s1, h1, h2, h3, rfl, h5, h6⟩ := h
  go_enter Tryd.func17, Tryd.ntmps17
  go_wp2_with fail
  refine (clamp_Now g 6 a1 s1 _ (by rw [h1.1.cell]; rfl) (by rw [h1.1.cell]; rfl)).mono ?_
  rintro e w' ⟨rfl, rfl⟩
  go_wp2
  go_ret
  exact ⟨rfl, rfl⟩
theorem percent_Lag (h : PGen w B g rg rb v p n q now most) :
    Calls Tryd.prog 29 #[.pointer (some ⟨g, 0, none⟩)] w fun e w' => e = .returned (.int .i64 (pLag q p)) ∧ Below w.heap.size w w' := by
  obtain ⟨bs, a2, s2, a1, s1, h1, h2, h3, h4, h5, h6, h7, ⟨hp0, hp1⟩, h9⟩ := h
  have c0 : w.cell? ⟨g, 0, none⟩ = some (.int .i64 p) := by rw [h1.1.cell]; rfl
  have HI := hid' h1
  have HL := hid' (show (pcR bs p (totB bs : Nat)).1 = pLag q p by rw [pc_least h3 p hp0]; rfl)
  clear h1 h2 h3
  go_enter Tryd.func29, Tryd.ntmps29
  go_wp2_with fail
  go_region_with (go_at_call 36; refine (HistI.percent (show HistI w.drew g 2 _ _ _ _ _ from HI.out) p hp0 hp1).mono ?_; rintro e w2 ⟨rfl, hB2⟩)
  all_goals
    go_wp2
    go_ret
    refine ⟨ret_int HL.out, ?_⟩
    first | exact bel_then (bel_drew (bel_refl w)) hB2 | exact bel_drew (bel_then (bel_drew (bel_refl w)) hB2)
end

theorem percent_New (p window : Int) (w : World) (hp0 : 0 ≤ p) (hp1 : p ≤ 100) (hw : window ≤ 5000) :
    Calls Tryd.prog 14 #[.int .i64 p, .int .i64 window] w fun e w' => ∃ g rg rb, e = .returned (.pointer (some ⟨g, 0, none⟩)) ∧ PGen w' w.heap.size g rg rb (.slice none 0 0) p (max window 1).toNat [] NEV NEV ∧ Below w.heap.size w w' := by
  go_enter Tryd.func14, Tryd.ntmps14
  go_wp2_with fail
  refine (ringInt_New window w (by omega)).mono ?_
  rintro e w1 ⟨rg, rb, rfl, hg, hb, hR, hB⟩
  go_wp2
  go_ret
  refine ⟨_, rg, rb, rfl, ⟨[], 0, false, 0, false, ⟨Blk.new_ w1 _ _, rfl, rfl, own_nil' _ _ _ _, ⟨List.Pairwise.nil, fun b hb => by cases hb⟩, by decide, by have := hB.size; simp; omega, by decide⟩, hR.below (bel_alloc (bel_refl _) _), HistOf.nil, rfl, rfl, (by unfold I64 at *; omega), (by unfold I64 at *; omega), ⟨hp0, hp1⟩, by omega, (fun x hx => by cases hx), hB.size, hg, hb⟩, bel_alloc hB _⟩
set_option maxHeartbeats 4000000 in
theorem percent_Seen {w : World} {B g rg rb : Nat} {v : Value} {p : Int} {n : Nat} {q : List Int} {now most : Int} (h : PGen w B g rg rb v p n q now most) (kind t : Int) (txt : ByteArray) (ht : I64 t) (hql : q.length < 9000) :
    Calls Tryd.prog 16 #[.pointer (some ⟨g, 0, none⟩), .agg #[.int .i64 kind, .int .i64 t, .string txt]] w fun e w' =>
      e = .returned (.tuple #[]) ∧ ∃ v', PGen w' B g rg rb v' p n (pushQ n q (satSub (max most t) t)) (max now (bAfter (max most t) (pLag (pushQ n q (satSub (max most t) t)) p))) (max most t) ∧ Mod (PF g rg rb v) w w' ∧ (v'.ownBlock = v.ownBlock ∨ ∃ b, v'.ownBlock = some b ∧ w.heap.size ≤ b) := by
  have hbd := h.bound
  obtain ⟨bs, a2, s2, a1, s1, hH, hR, hHO, rfl, rfl, hI1, hI2, ⟨hp0, hp1⟩, hn, hqI, hBg, hBrg, hBrb⟩ := h
  obtain ⟨⟨c1, b1⟩, ⟨c2, b2⟩⟩ := hR.blks
  have hgr : g ≠ rg := Blk.ne hH.1 b1 (by decide)
  have hgb : g ≠ rb := Blk.ne hH.1 b2 (by decide)
  have hvr : v.ownBlock ≠ some rg := own_ne' hH.2.2.2.1 b1 (by decide)
  have hvb : v.ownBlock ≠ some rb := own_ne' hH.2.2.2.1 b2 (by decide)
  have hmI : I64 (max (clNow a2 s2) t) := by have := I64.clNow (s := s2) hI2; unfold I64 at *; omega
  have HN := hid' (clNow_raise a2 s2 t)
  obtain ⟨lag, hlag⟩ : ∃ lag, lag = satSub (max (clNow a2 s2) t) t := ⟨_, rfl⟩
  have hlI : I64 lag := by rw [hlag]; exact I64.satSub _ _
  rw [← hlag]
  -- the box of the record
  have hbox := Blk.new_ w 27 #[.int .i64 kind, .int .i64 t, .string txt]
  have hB0 := bel_alloc (bel_refl w) (.cells #[.int .i64 kind, .int .i64 t, .string txt] 27)
  have hH1 := hH.below hB0
  have hR1 := hR.below hB0
  have hgl : g < w.heap.size := (hbd.1 g (.inl rfl)).2
  have hgw : g ≠ w.heap.size := by omega
  have HBX := hid' hbox
  have HH1 := hid' hH1
  have HR1 := hid' hR1
  have HB0 := hid' hB0
  have HBD := hid' hbd
  have HHO := hid' hHO
  have HQI := hid' hqI
  have HLG := hid' hlag
  clear hH hR hbox hB0 hH1 hR1 hbd b1 b2 hlag
  go_enter Tryd.func16, Tryd.ntmps16
  go_wp2_with fail
  generalize w.alloc (.cells #[.int .i64 kind, .int .i64 t, .string txt] 27) = w1 at *
  have cb : w1.cell? ⟨w.heap.size, 1, none⟩ = some (.int .i64 t) := by simpa using HBX.out.cell 1
  go_region_held3 (fun w' => w'.cell? ⟨w.heap.size, 1, none⟩ = some (.int .i64 t))
    (first | go_keep | exact hcell)
    ((go_at_call 21; refine (clamp_RaiseI g 4 _ _ a2 s2 t w1.drew HH1.out.1.drew rfl rfl).mono ?_; rintro e w2 ⟨rfl, hb2, hm2⟩; have hcell := hm2.cell cb (Ne.symm hgw)))
  have HB2 := hid' (hb2.cast (cs' := pgCells p rg v (totB bs) (clA a2 s2 t) (clS a2 s2 t) a1 s1) rfl)
  have HM2 := hid' ((Mod.refl (fun k => k = g) w1).drew.trans hm2)
  have HH2 := hid' (HH1.out.put HB2.out HM2.out rfl rfl)
  have HR2 := hid' (HR1.out.mod HM2.out (Ne.symm hgr) (Ne.symm hgb))
  clear hb2 hm2 cb
  have cb : w2.cell? ⟨w.heap.size, 1, none⟩ = some (.int .i64 t) := hcell
  have HN2 := hid' (fun (W : World) (hd : Dr w2 W) => show Calls Tryd.prog 22 #[.pointer (some ⟨g, 4, none⟩)] W fun e w' => e = .returned (.int .i64 (max (clNow a2 s2) t)) ∧ W = w' from by
    have := clamp_NowI g 4 53 _ (clA a2 s2 t) (clS a2 s2 t) W (by obtain ⟨m, rfl⟩ := hd; exact HB2.out.drewN m) rfl rfl
    rwa [HN.out] at this)
  have HSub := hid' (fun (W : World) => show Calls Tryd.prog 25 #[.int .i64 (max (clNow a2 s2) t), .int .i64 t] W fun e w' => e = .returned (.int .i64 lag) ∧ W = w' from by
    rw [HLG.out]; exact sat_Sub _ _ W hmI ht)
  clear hcell
  go_wp2_with fail
  go_quiet (first
    | (go_at_call 22; exact quiet_same (HN2.out _ (by repeat (first | exact Dr.refl _ | apply Dr.step | apply Dr.stepd))) (by repeat (first | exact Dr.refl _ | apply Dr.step | apply Dr.stepd)))
    | (go_at_call 25; exact quiet_same (HSub.out _) (by repeat (first | exact Dr.refl _ | apply Dr.step | apply Dr.stepd))))
  have d1 : w2.cell? ⟨g, 1, none⟩ = some (.pointer (some ⟨rg, 0, none⟩)) := by rw [HB2.out.cell]; rfl
  have hqn := HBD.out.2.2.2.1
  have htot := HHO.out.tot
  by_cases hlt : q.length < n
  · have HPU := hid' (fun (m : Nat) => show Calls Tryd.prog 26 #[.pointer (some ⟨rg, 0, none⟩), .int .i64 lag] (w2.drewN m) fun e w' => e = .returned (.tuple #[.int .i64 0, .bool false]) ∧ RingInt w' rg rb n (q ++ [lag]) ∧ Mod (fun k => k = rg ∨ k = rb) (w2.drewN m) w' from by
      have := ringInt_Push rg rb n q lag (w2.drewN m) (HR2.out.drewN m) (by omega)
      rw [if_pos hlt, if_pos hlt, decide_eq_false (by omega)] at this; exact this)
    have HQ := hid' (show pushQ n q lag = q ++ [lag] by unfold pushQ; rw [if_pos hlt])
    go_wp2_with (first
      | (go_at_call 26; refine (HPU.out _).mono ?_; rintro e w3 ⟨rfl, hR3, hm3⟩
         have HH3 := hid' ((show HistI (w2.drewN nq) g 2 53 _ B v bs from HH2.out).mod hm3 (by omega) (by rintro k hk (rfl | rfl); exact hvr hk; exact hvb hk))
         have HR3 := hid' hR3
         have HM3 := hid' hm3
         clear hR3 hm3)
      | (go_at_call 28; refine (HH3.out.add lag (by omega)).mono ?_; rintro e w4 ⟨rfl, v4, hH4, hM4, hv4⟩))
    have HHO4 := hid' (HHO.out.add lag)
    have HQI4 := hid' (show ∀ x ∈ q ++ [lag], I64 x from fun x hx => by
      rcases List.mem_append.1 hx with h | h
      · exact HQI.out x h
      · rw [List.mem_singleton] at h; rw [h]; exact hlI)
    have hne4 := fun k (e : k = rg ∨ k = rb) (h : k = g ∨ v.ownBlock = some k) => show False from by
      rcases e with rfl | rfl <;> rcases h with h | h
      · exact hgr h.symm
      · exact hvr h
      · exact hgb h.symm
      · exact hvb h
    have hR4 : RingInt w4 rg rb n (q ++ [lag]) := HR3.out.mod hM4 (fun h => hne4 rg (.inl rfl) h) (fun h => hne4 rb (.inr rfl) h)
    have hqI4 : ∀ x ∈ (q ++ [lag]), I64 x := HQI4.out
    have HG4 := hid' (show PGen w4 B g rg rb v4 p n (q ++ [lag]) (clNow a1 s1) (max (clNow a2 s2) t) from ⟨addB lag bs, clA a2 s2 t, clS a2 s2 t, a1, s1, hH4, hR4, HHO4.out, rfl, HN.out, hI1, I64.clA hI2 ht, ⟨hp0, hp1⟩, hn, hqI4, hBg, hBrg, hBrb⟩)
    have HB4 := hid' (show Blk w4 g 53 (pgCells p rg v4 (totB (addB lag bs)) (clA a2 s2 t) (clS a2 s2 t) a1 s1) from hH4.1)
    have HLA := hid' (fun (W : World) (hd : Dr w4 W) => percent_Lag (HG4.out.below hd.below))
    have HNO := hid' (fun (W : World) (hb : Below w4.heap.size w4 W) => show Calls Tryd.prog 22 #[.pointer (some ⟨g, 4, none⟩)] W fun e w' => e = .returned (.int .i64 (max (clNow a2 s2) t)) ∧ W = w' from by
      have := clamp_NowI g 4 53 _ (clA a2 s2 t) (clS a2 s2 t) W (HB4.out.below hb) rfl rfl
      rwa [HN.out] at this)
    have hlI4 := I64.pLag hqI4 p
    have HAF := hid' (fun (W : World) => bounded_After (max (clNow a2 s2) t) (pLag (q ++ [lag]) p) W hmI hlI4)
    have HRA := hid' (fun (W : World) (hb : Below w4.heap.size w4 W) => show Calls Tryd.prog 21 #[.pointer (some ⟨g, 6, none⟩), .int .i64 (bAfter (max (clNow a2 s2) t) (pLag (q ++ [lag]) p))] W fun e w' => (∃ b, e = .returned (.bool b)) ∧
        PGen w' B g rg rb v4 p n (q ++ [lag]) (max (clNow a1 s1) (bAfter (max (clNow a2 s2) t) (pLag (q ++ [lag]) p))) (max (clNow a2 s2) t) ∧ Mod (fun k => k = g) w4 w' from by
      refine (clamp_RaiseI g 6 53 _ a1 s1 (bAfter (max (clNow a2 s2) t) (pLag (q ++ [lag]) p)) W (HB4.out.below hb) rfl rfl).mono ?_
      rintro e w' ⟨rfl, hb7, hm7⟩
      refine ⟨⟨_, rfl⟩, ⟨addB lag bs, clA a2 s2 t, clS a2 s2 t, _, _, (hH4.below hb).put (cs' := pgCells p rg v4 (totB (addB lag bs)) (clA a2 s2 t) (clS a2 s2 t) (clA a1 s1 (bAfter (max (clNow a2 s2) t) (pLag (q ++ [lag]) p))) (clS a1 s1 (bAfter (max (clNow a2 s2) t) (pLag (q ++ [lag]) p)))) hb7 hm7 rfl rfl, (hR4.below hb).mod hm7 (Ne.symm hgr) (Ne.symm hgb), HHO4.out, clNow_raise a1 s1 _, HN.out, I64.clA hI1 (I64.bAfter _ _), I64.clA hI2 ht, ⟨hp0, hp1⟩, hn, hqI4, hBg, hBrg, hBrb⟩, (Mod.of_below hb).trans hm7⟩)
    have HM4 := hid' (And.intro hM4 hv4)
    clear hR4 hH4 hqI4 hM4 hv4 hlI4 hne4
    go_region_with (first
      | (go_at_call 29; refine (HLA.out _ (by repeat (first | exact Dr.refl _ | apply Dr.step | apply Dr.stepd))).mono ?_; rintro e w6 ⟨rfl, hB6⟩; have hB46 : Below w4.heap.size w4 w6 := bel_then (by first | exact bel_drewN (bel_refl _) _ | exact bel_drew (bel_refl _) | exact bel_refl _) hB6; clear hB6)
      | (go_at_call 22; refine (HNO.out _ (by repeat (first | assumption | apply bel_alloc | apply bel_drewN | apply bel_drew | exact bel_refl _))).mono ?_; rintro e w' ⟨rfl, rfl⟩)
      | (go_at_call 24; refine (HAF.out _).mono ?_; rintro e w' ⟨rfl, rfl⟩)
      | (go_at_call 21; refine (HRA.out _ (by repeat (first | assumption | apply bel_alloc | apply bel_drewN | apply bel_drew | exact bel_refl _))).mono ?_; rintro e w7 ⟨⟨b7, rfl⟩, hG7, hm7⟩))
    all_goals
      go_end0
      refine ⟨rfl, v4, by rw [HQ.out]; exact hG7, ?_, ?_⟩
      · exact (((((Mod.of_below HB0.out).then_ HM2.out (fun i _ h => .inl h)).drewN nq).then_ HM3.out (fun i _ h => by rcases h with h | h; exact .inr (.inl h); exact .inr (.inr (.inl h)))).then_ HM4.out.1 (fun i _ h => by rcases h with h | h; exact .inl h; exact .inr (.inr (.inr h)))).then_ hm7 (fun i _ h => .inl h)
      · rcases HM4.out.2 with h | ⟨b, h, hle⟩
        · exact .inl h
        · refine .inr ⟨b, h, ?_⟩
          have s1 := HB0.out.size
          have s2 := HM2.out.size
          have s3 := HM3.out.size
          simp at s3
          omega
  · obtain ⟨y, ys, hys⟩ : ∃ y ys, q = y :: ys := by
      cases q with
      | nil => exact absurd HBD.out.2.2.2.2 hlt
      | cons y ys => exact ⟨y, ys, rfl⟩
    have HPU := hid' (fun (m : Nat) => show Calls Tryd.prog 26 #[.pointer (some ⟨rg, 0, none⟩), .int .i64 lag] (w2.drewN m) fun e w' => e = .returned (.tuple #[.int .i64 y, .bool true]) ∧ RingInt w' rg rb n (ys ++ [lag]) ∧ Mod (fun k => k = rg ∨ k = rb) (w2.drewN m) w' from by
      have := ringInt_Push rg rb n q lag (w2.drewN m) (HR2.out.drewN m) (by omega)
      rw [if_neg hlt, if_neg hlt, decide_eq_true (by omega), hys] at this; exact this)
    have HQ := hid' (show pushQ n q lag = ys ++ [lag] by unfold pushQ; rw [if_neg hlt, hys]; rfl)
    have hrem : HistOf (remB y bs) ys := by
      have := HHO.out.rem y
      rw [hys, List.erase_cons_head] at this; exact this
    have hyl : ys.length < 9000 := by rw [hys] at hql; simp at hql; omega
    have hrt := hrem.tot
    have HHO4 := hid' (hrem.add lag)
    have HQI4 := hid' (show ∀ x ∈ ys ++ [lag], I64 x from fun x hx => by
      rcases List.mem_append.1 hx with h | h
      · exact HQI.out x (by rw [hys]; exact List.mem_cons_of_mem _ h)
      · rw [List.mem_singleton] at h; rw [h]; exact hlI)
    clear hrem hys
    go_wp2_with (first
      | (go_at_call 26; refine (HPU.out _).mono ?_; rintro e w3 ⟨rfl, hR3, hm3⟩
         have HH3 := hid' ((show HistI (w2.drewN nq) g 2 53 _ B v bs from HH2.out).mod hm3 (by omega) (by rintro k hk (rfl | rfl); exact hvr hk; exact hvb hk))
         have HR3 := hid' hR3
         have HM3 := hid' hm3
         clear hR3 hm3)
      | (go_at_call 27; refine (HH3.out.remove y).mono ?_; rintro e w3b ⟨rfl, v3, hH3b, hM3b, hv3b⟩
         have HR3 := hid' (show RingInt w3b rg rb n (ys ++ [lag]) from HR3.out.mod hM3b (by rintro (h | h); exact hgr h.symm; exact hvr h) (by rintro (h | h); exact hgb h.symm; exact hvb h))
         have HM3b := hid' (And.intro hM3b hv3b)
         clear hM3b hv3b)
      | (go_at_call 28; refine (hH3b.add lag (by omega)).mono ?_; rintro e w4 ⟨rfl, v4, hH4, hM4, hv4⟩; rw [HM3b.out.2] at hM4 hv4))
    have hne4 := fun k (e : k = rg ∨ k = rb) (h : k = g ∨ v.ownBlock = some k) => show False from by
      rcases e with rfl | rfl <;> rcases h with h | h
      · exact hgr h.symm
      · exact hvr h
      · exact hgb h.symm
      · exact hvb h
    have hR4 : RingInt w4 rg rb n (ys ++ [lag]) := HR3.out.mod hM4 (fun h => hne4 rg (.inl rfl) h) (fun h => hne4 rb (.inr rfl) h)
    have hqI4 : ∀ x ∈ (ys ++ [lag]), I64 x := HQI4.out
    have HG4 := hid' (show PGen w4 B g rg rb v4 p n (ys ++ [lag]) (clNow a1 s1) (max (clNow a2 s2) t) from ⟨addB lag (remB y bs), clA a2 s2 t, clS a2 s2 t, a1, s1, hH4, hR4, HHO4.out, rfl, HN.out, hI1, I64.clA hI2 ht, ⟨hp0, hp1⟩, hn, hqI4, hBg, hBrg, hBrb⟩)
    have HB4 := hid' (show Blk w4 g 53 (pgCells p rg v4 (totB (addB lag (remB y bs))) (clA a2 s2 t) (clS a2 s2 t) a1 s1) from hH4.1)
    have HLA := hid' (fun (W : World) (hd : Dr w4 W) => percent_Lag (HG4.out.below hd.below))
    have HNO := hid' (fun (W : World) (hb : Below w4.heap.size w4 W) => show Calls Tryd.prog 22 #[.pointer (some ⟨g, 4, none⟩)] W fun e w' => e = .returned (.int .i64 (max (clNow a2 s2) t)) ∧ W = w' from by
      have := clamp_NowI g 4 53 _ (clA a2 s2 t) (clS a2 s2 t) W (HB4.out.below hb) rfl rfl
      rwa [HN.out] at this)
    have hlI4 := I64.pLag hqI4 p
    have HAF := hid' (fun (W : World) => bounded_After (max (clNow a2 s2) t) (pLag (ys ++ [lag]) p) W hmI hlI4)
    have HRA := hid' (fun (W : World) (hb : Below w4.heap.size w4 W) => show Calls Tryd.prog 21 #[.pointer (some ⟨g, 6, none⟩), .int .i64 (bAfter (max (clNow a2 s2) t) (pLag (ys ++ [lag]) p))] W fun e w' => (∃ b, e = .returned (.bool b)) ∧
        PGen w' B g rg rb v4 p n (ys ++ [lag]) (max (clNow a1 s1) (bAfter (max (clNow a2 s2) t) (pLag (ys ++ [lag]) p))) (max (clNow a2 s2) t) ∧ Mod (fun k => k = g) w4 w' from by
      refine (clamp_RaiseI g 6 53 _ a1 s1 (bAfter (max (clNow a2 s2) t) (pLag (ys ++ [lag]) p)) W (HB4.out.below hb) rfl rfl).mono ?_
      rintro e w' ⟨rfl, hb7, hm7⟩
      refine ⟨⟨_, rfl⟩, ⟨addB lag (remB y bs), clA a2 s2 t, clS a2 s2 t, _, _, (hH4.below hb).put (cs' := pgCells p rg v4 (totB (addB lag (remB y bs))) (clA a2 s2 t) (clS a2 s2 t) (clA a1 s1 (bAfter (max (clNow a2 s2) t) (pLag (ys ++ [lag]) p))) (clS a1 s1 (bAfter (max (clNow a2 s2) t) (pLag (ys ++ [lag]) p)))) hb7 hm7 rfl rfl, (hR4.below hb).mod hm7 (Ne.symm hgr) (Ne.symm hgb), HHO4.out, clNow_raise a1 s1 _, HN.out, I64.clA hI1 (I64.bAfter _ _), I64.clA hI2 ht, ⟨hp0, hp1⟩, hn, hqI4, hBg, hBrg, hBrb⟩, (Mod.of_below hb).trans hm7⟩)
    have HM4 := hid' (And.intro hM4 hv4)
    clear hR4 hH4 hqI4 hM4 hv4 hlI4 hne4
    go_region_with (first
      | (go_at_call 29; refine (HLA.out _ (by repeat (first | exact Dr.refl _ | apply Dr.step | apply Dr.stepd))).mono ?_; rintro e w6 ⟨rfl, hB6⟩; have hB46 : Below w4.heap.size w4 w6 := bel_then (by first | exact bel_drewN (bel_refl _) _ | exact bel_drew (bel_refl _) | exact bel_refl _) hB6; clear hB6)
      | (go_at_call 22; refine (HNO.out _ (by repeat (first | assumption | apply bel_alloc | apply bel_drewN | apply bel_drew | exact bel_refl _))).mono ?_; rintro e w' ⟨rfl, rfl⟩)
      | (go_at_call 24; refine (HAF.out _).mono ?_; rintro e w' ⟨rfl, rfl⟩)
      | (go_at_call 21; refine (HRA.out _ (by repeat (first | assumption | apply bel_alloc | apply bel_drewN | apply bel_drew | exact bel_refl _))).mono ?_; rintro e w7 ⟨⟨b7, rfl⟩, hG7, hm7⟩))
    all_goals
      go_end0
      refine ⟨rfl, v4, by rw [HQ.out]; exact hG7, ?_, ?_⟩
      · exact ((((((Mod.of_below HB0.out).then_ HM2.out (fun i _ h => .inl h)).drewN nq).then_ HM3.out (fun i _ h => by rcases h with h | h; exact .inr (.inl h); exact .inr (.inr (.inl h)))).then_ HM3b.out.1 (fun i _ h => by rcases h with h | h; exact .inl h; exact .inr (.inr (.inr h)))).then_ HM4.out.1 (fun i _ h => by rcases h with h | h; exact .inl h; exact .inr (.inr (.inr h)))).then_ hm7 (fun i _ h => .inl h)
      · rcases HM4.out.2 with h | ⟨b, h, hle⟩
        · exact .inl h
        · refine .inr ⟨b, h, ?_⟩
          have s1 := HB0.out.size
          have s2 := HM2.out.size
          have s3 := HM3.out.size
          have s4 := HM3b.out.1.size
          simp at s3
          omega
end Go.Proofs.YtckndjgdfhbgcaaDoor
