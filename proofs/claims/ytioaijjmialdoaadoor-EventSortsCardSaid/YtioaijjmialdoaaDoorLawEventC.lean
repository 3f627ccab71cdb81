
/- Of any events those of each type, in order: the law, walked. No condition but the tables and variables of Go's own library. -/
import Derived.Test.YtioaijjmialdoaaDoorLawEvent
import Derived.Test.YtioaijjmialdoaaDoorCells
namespace Go.Proofs.YtioaijjmialdoaaDoor
set_option maxRecDepth 100000
set_option linter.unusedSimpArgs false
open Go.RowKit
set_option linter.unusedVariables false
set_option linter.unusedSimpArgs false

theorem fm_get {α : Type} {f : α → List Value} {sz : Nat} (hf : ∀ x, (f x).length = sz) : ∀ {l : List α} {j : Nat} {x : α}, l[j]? = some x → ∀ i u, (f x)[i]? = some u → (l.flatMap f)[j * sz + i]? = some u
  | [], j, x, h => by simp at h
  | r :: l, 0, x, h => fun i u hu => by
    simp only [List.getElem?_cons_zero, Option.some.injEq] at h; subst h
    have hi : i < (f r).length := (List.getElem?_eq_some_iff.1 hu).1
    rw [List.flatMap_cons, Nat.zero_mul, Nat.zero_add, List.getElem?_append_left hi]; exact hu
  | r :: l, j + 1, x, h => fun i u hu => by
    have ih := fm_get hf (l := l) (j := j) (x := x) (by simpa using h) i u hu
    rw [List.flatMap_cons, List.getElem?_append_right (by rw [hf, Nat.succ_mul]; omega), hf, show (j + 1) * sz + i - sz = j * sz + i by rw [Nat.succ_mul]; omega]
    exact ih
theorem rd_rdS {α : Type} {f : α → List Value} {sz : Nat} (hf : ∀ x, (f x).length = sz) (h0 : 0 < sz) {w : World} {A : Option Addr} {l : List α} (h : Rd w A (l.flatMap f)) : RdS w A sz f l := fun j x hx => by
  have hi0 : 0 < (f x).length := by rw [hf]; exact h0
  obtain ⟨ad, hA, _⟩ := h _ _ (fm_get hf hx 0 ((f x)[0]) (List.getElem?_eq_getElem hi0))
  refine ⟨ad, hA, hf x, fun i u hi => ?_⟩
  obtain ⟨ad', hA', c⟩ := h _ _ (fm_get hf hx i u hi)
  rw [hA] at hA'; injection hA' with hA'; subst hA'
  rw [add_add']; exact c
theorem fm_at {α β : Type} {f : α → List β} {l : List α} {k : Nat} {x : α} {y : β} (h : l[k]? = some x) (hf : f x = [y]) : (l.flatMap f)[((l.take k).flatMap f).length]? = some y := by
  have hd : l = l.take k ++ (x :: l.drop (k + 1)) := by
    have hk : k < l.length := (List.getElem?_eq_some_iff.1 h).1
    have hx : l[k] = x := (List.getElem?_eq_some_iff.1 h).2
    rw [← hx, ← List.drop_eq_getElem_cons hk, List.take_append_drop]
  conv => lhs; arg 1; rw [hd]
  rw [List.flatMap_append, List.flatMap_cons, hf, List.getElem?_append_right (Nat.le_refl _), Nat.sub_self]
  rfl
def rowPd (w : World) (A : Option Addr) (l : List PD) : Prop := ∀ j x, l[j]? = some x → ∃ ad row, A = some ad ∧ RPd w row x ∧ row.length = 8 ∧ ∀ i u, row[i]? = some u → w.cell? ((ad.add (j * 8)).add i) = some u
theorem rowPd.rds {w : World} {A : Option Addr} {l : List PD} (h : rowPd w A l) : RdS w A 8 fPd l := fun j x hj => by
  obtain ⟨ad, row, e, ha, hl, hc⟩ := h j x hj
  obtain ⟨rfl, _⟩ := ha.cells
  exact ⟨ad, e, rfl, hc⟩
theorem RdS.at8 {w : World} {A : Option Addr} {l : List PD} (h : RdS w A 8 fPd l) {j : Nat} (hj : j < l.length) :
    ∃ ad x, A = some ad ∧ l[j]? = some x ∧ w.cell? (ad.add (j * 8)) = some (.int .i64 x.1) ∧ w.cell? ⟨(ad.add (j * 8)).block, (ad.add (j * 8)).off + 1, none⟩ = some (.int .i64 x.2.1) ∧ w.cell? ⟨(ad.add (j * 8)).block, (ad.add (j * 8)).off + 2, none⟩ = some (.int .i64 x.2.2.1.1) ∧ w.cell? ⟨(ad.add (j * 8)).block, (ad.add (j * 8)).off + 3, none⟩ = some (.int .i64 x.2.2.1.2.1) ∧ w.cell? ⟨(ad.add (j * 8)).block, (ad.add (j * 8)).off + 4, none⟩ = some (.string x.2.2.1.2.2) ∧ w.cell? ⟨(ad.add (j * 8)).block, (ad.add (j * 8)).off + 5, none⟩ = some (.bool x.2.2.2.1) ∧ w.cell? ⟨(ad.add (j * 8)).block, (ad.add (j * 8)).off + 6, none⟩ = some (.int .i64 x.2.2.2.2.1) ∧ w.cell? ⟨(ad.add (j * 8)).block, (ad.add (j * 8)).off + 7, none⟩ = some (.int .i64 x.2.2.2.2.2) := by
  obtain ⟨ad, e, _, hc⟩ := h j l[j] (List.getElem?_eq_getElem hj)
  exact ⟨ad, l[j], e, List.getElem?_eq_getElem hj, hc 0 _ rfl, hc 1 _ rfl, hc 2 _ rfl, hc 3 _ rfl, hc 4 _ rfl, hc 5 _ rfl, hc 6 _ rfl, hc 7 _ rfl⟩
theorem law22_OfP (y : PD) (w : World) : Calls Tryd.prog 10 #[.agg (fPd y).toArray] w fun e w' => e = .returned (evV (pdEv y)) ∧ Below w.heap.size w w' := law22_Of y.1 y.2.1 y.2.2.1.1 y.2.2.1.2.1 y.2.2.1.2.2 y.2.2.2.1 y.2.2.2.2.1 y.2.2.2.2.2 w
theorem evV_iface (e : Ev) : ∃ t v, evV e = .iface t v := by cases e <;> exact ⟨_, _, rfl⟩
def evNext (x : Ev) (z : Int) : Int := match x with | .mark a => a | _ => z
theorem evLast_snoc {l : List Ev} {k : Nat} {x : Ev} (h : l[k]? = some x) : evLast (l.take (k + 1)) = evNext x (evLast (l.take k)) := by
  unfold evLast mkL evNext
  rw [take_fm h]
  cases x <;> simp [mkOf]
set_option maxHeartbeats 16000000 in
theorem eventSorts (A : Option Addr) (c : Nat) (l : List PD) (w : World) (hr : rowPd w A l) (hl : l.length ≤ maxLen) (hP : PowT w) (hE : ErV w) (hM : MaxT w) (hT : U8T w) (hZ : TzT w) :
    Calls Tryd.prog 4 #[.slice A l.length c] w fun e w' => e = .returned (.bool true) ∧ Below w.heap.size w w' := by
  have hl' : l.length ≤ 9223372036854775807 := hl
  have HS := hid' (speaks22 w hP hE hM hT hZ)
  have HR := hid' hr.rds
  have HO0 := hid' (World.ownsRow_nil w w.heap.size 24 1)
  clear hr hP hE hM hT hZ hl
  by_cases hbig : 100 < l.length
  · go_enter Tryd.func4, Tryd.ntmps4
    go_wp2_with fail
    refine HS.out.mono ?_
    rintro e w1 ⟨rfl, hB1⟩
    go_wp2
    go_ret
    exact ⟨rfl, hB1⟩
  obtain ⟨E, hE⟩ : ∃ E, E = l.map pdEv := ⟨_, rfl⟩
  have hEl : E.length = l.length := by rw [hE, List.length_map]
  obtain ⟨n, hn⟩ : ∃ n, n = l.length := ⟨_, rfl⟩
  rw [← hn] at hbig hl' hEl ⊢
  have HN := hid' hn
  have HEQ := hid' hE
  have HEL := hid' hEl
  clear hn hE hEl
  go_enter Tryd.func4, Tryd.ntmps4
  go_wp2_with fail
  refine HS.out.mono ?_
  rintro e w1 ⟨rfl, hB1⟩
  have HL1 := hid' hB1
  clear hB1 HS
  go_wp2_with fail
  go_loopw [3, 25] (fun v3 v25 wr => ∃ k : Nat, k ≤ n ∧ v25 = .int .i64 k ∧ wr.ownsRow w.heap.size 24 1 v3 k ((E.take k).map evV) ∧ Below w.heap.size w wr) (fun _ v25 _ => n - (intOf v25).toNat)
  case atStart => exact ⟨0, Nat.zero_le _, rfl, own_below HO0.out HL1.out, HL1.out⟩
  case round =>
    obtain ⟨k, hk, rfl, hO, hL⟩ := hrel
    have HO := hid' hO
    have HL := hid' hL
    clear hO
    by_cases hlt : k < n
    · obtain ⟨ad, x, rfl, hx, x0, x1, x2, x3, x4, x5, x6, x7⟩ := (HR.out.below hL).at8 (by rw [← HN.out]; exact hlt)
      have HXE := hid' (show E[k]? = some (pdEv x) by rw [HEQ.out, List.getElem?_map, hx]; rfl)
      have HB2 := hid' (bel_alloc HL.out (.cells #[.int .i64 x.1, .int .i64 x.2.1, .int .i64 x.2.2.1.1, .int .i64 x.2.2.1.2.1, .string x.2.2.1.2.2, .bool x.2.2.2.1, .int .i64 x.2.2.2.2.1, .int .i64 x.2.2.2.2.2] 31))
      have HTI := hid' (fun W => law22_tidy x.1 x.2.1 x.2.2.1.1 x.2.2.1.2.1 x.2.2.1.2.2 x.2.2.2.1 x.2.2.2.2.1 x.2.2.2.2.2 W)
      have HOF := hid' (fun W => law22_OfP (tidyP (x.1, x.2.1, (x.2.2.1.1, x.2.2.1.2.1, x.2.2.1.2.2), x.2.2.2.1, x.2.2.2.2.1, x.2.2.2.2.2)) W)
      rw [tidy_ev] at HOF
      have hpx : pdEv (x.1, x.2.1, (x.2.2.1.1, x.2.2.1.2.1, x.2.2.1.2.2), x.2.2.2.1, x.2.2.2.2.1, x.2.2.2.2.2) = pdEv x := rfl
      rw [hpx] at HOF
      obtain ⟨t, v, hv⟩ := evV_iface (pdEv x)
      rw [hv] at HOF
      have HV := hid' hv
      clear hx hL hpx hv
      go_wp2_with fail
      refine (HTI.out _).mono ?_
      rintro e w3 ⟨rfl, hB3⟩
      have HL3 := hid' (bel_then HB2.out hB3)
      have HO3 := hid' (own_below (HO.out.alloc _) hB3)
      clear hB3 x0 x1 x2 x3 x4 x5 x6 x7
      generalize hww : (fPd (tidyP (x.1, x.2.1, (x.2.2.1.1, x.2.2.1.2.1, x.2.2.1.2.2), x.2.2.2.1, x.2.2.2.2.1, x.2.2.2.2.2))).toArray = AG at *
      clear hww
      go_wp2_with fail
      refine (HOF.out _).mono ?_
      rintro e w4 ⟨rfl, hB4⟩
      have HL4 := hid' (bel_then HL3.out hB4)
      have HO4 := hid' (own_below HO3.out hB4)
      have hbase := HL4.out.size
      have hone := hid' (show ∀ u ∈ [(.iface t v : Value)], u.oneCell' = true by intro u hu; rw [List.mem_singleton] at hu; subst hu; rfl)
      have hby : (k + 1) * 16 ≤ 140737488355328 := by omega
      clear hB4
      go_wp2_with (at_builtin; (refine ap_cells w.heap.size rfl _ _ 34 24 .nilIface 1 16 rfl (by kernel_rfl) (by kernel_rfl) rfl (by decide) (by decide) u3 k ((E.take k).map evV) [.iface t v] rfl rfl rfl hone.out HO4.out hbase hby ?_); intro v1 w5 hown hg hat)
      go_roundw
      case rel => exact ⟨k + 1, by omega, by go_num, by
        have : (E.take (k + 1)).map evV = (E.take k).map evV ++ [.iface t v] := by rw [List.take_add_one, HXE.out, List.map_append, ← HV.out]; rfl
        rw [this]; exact hown, bel_mod HL4.out (Mod.of_grown hg) (fun i hi h => by have := own_base' HO4.out i h; omega)⟩
      case measure => (simp only [intOf]; omega)
    · obtain rfl : k = n := by omega
      rw [show E.take k = E from List.take_of_length_le (Nat.le_of_eq HEL.out)] at HO
      obtain ⟨A3, c3, rfl, -, -, hrd⟩ := own_rd HO.out
      have hb : E.length ≤ 100000 := by rw [HEL.out]; omega
      have HRE := hid' hrd
      have HOE := hid' (fun W hW => of_elem A3 c3 E W hW hb)
      have HOM := hid' (fun W hW => of_mark A3 c3 E W hW hb)
      have HOT := hid' (fun W hW => of_fault A3 c3 E W hW hb)
      have HLA := hid' (fun W hW => event_Last A3 c3 E W hW hb)
      rw [HEL.out] at HOE HOM HOT HLA
      clear hrd hb hL
      go_wp2_with fail
      refine (HOE.out _ HRE.out).mono ?_
      rintro e w2 ⟨v2, rfl, hO2, hB2⟩
      go_wp2_with fail
      refine (HOM.out _ (HRE.out.below hB2)).mono ?_
      rintro e w3 ⟨v3, rfl, hO3, hB3⟩
      go_wp2_with fail
      refine (HOT.out _ ((HRE.out.below hB2).below hB3)).mono ?_
      rintro e w4 ⟨v4, rfl, hO4, hB4⟩
      obtain ⟨A5, c5, rfl, -, -, hr5⟩ := own_rd hO2
      obtain ⟨A6, c6, rfl, -, -, hr6⟩ := own_rd hO3
      obtain ⟨A7, c7, rfl, -, -, hr7⟩ := own_rd hO4
      have HR5 := hid' (((rd_rdS (f := fEl) (sz := 5) (fun _ => rfl) (by decide) hr5).below hB3).below hB4)
      have HR6 := hid' ((rd_rdS (f := fMk) (sz := 1) (fun _ => rfl) (by decide) hr6).below hB4)
      have HR7 := hid' (rd_rdS (f := fFt) (sz := 2) (fun _ => rfl) (by decide) hr7)
      have HR4 := hid' (((HRE.out.below hB2).below hB3).below hB4)
      have HL4 := hid' (bel_then (bel_then (bel_then HL.out hB2) hB3) hB4)
      clear hB2 hB3 hB4 hO2 hO3 hO4 hr5 hr6 hr7
      have hN5 := elL_len E
      have hN6 := mkL_len E
      have hN7 := ftL_len E
      rw [HEL.out] at hN5 hN6 hN7
      obtain ⟨N5, hn5⟩ : ∃ N5, N5 = (elL E).length := ⟨_, rfl⟩
      obtain ⟨N6, hn6⟩ : ∃ N6, N6 = (mkL E).length := ⟨_, rfl⟩
      obtain ⟨N7, hn7⟩ : ∃ N7, N7 = (ftL E).length := ⟨_, rfl⟩
      rw [← hn5] at hN5
      rw [← hn6] at hN6
      rw [← hn7] at hN7
      have HN5 := hid' hn5
      have HN6 := hid' hn6
      have HN7 := hid' hn7
      obtain ⟨z, hz⟩ : ∃ z, z = evLast E := ⟨_, rfl⟩
      rw [← hz] at HLA
      have HZZ := hid' hz
      clear hz
      go_wp2_with fail
      rw [← HN5.out, ← HN6.out, ← HN7.out]
      clear hn5 hn6 hn7
      go_loopw [9, 10, 11, 12, 44] (fun v9 v10 v11 v12 v44 wx => ∃ j : Nat, j ≤ k ∧ v44 = .int .i64 j ∧ v9 = .int .i64 ((elL (E.take j)).length : Int) ∧ v10 = .int .i64 ((mkL (E.take j)).length : Int) ∧ v11 = .int .i64 ((ftL (E.take j)).length : Int) ∧ v12 = .int .i64 (evLast (E.take j)) ∧ Below w4.heap.size w4 wx) (fun _ _ _ _ v44 _ => k - (intOf v44).toNat)
      case atStart => exact ⟨0, Nat.zero_le _, rfl, rfl, rfl, rfl, rfl, bel_refl _⟩
      case round =>
        obtain ⟨j, hj, rfl, rfl, rfl, rfl, rfl, hL⟩ := hrel
        have HL := hid' hL
        by_cases hlt2 : j < k
        · obtain ⟨ad, x, rfl, hx, hcell⟩ := (HR4.out.below hL).at_ (j := j) (by rw [HEL.out]; exact hlt2)
          have HE5 := hid' (show elL (E.take (j + 1)) = elL (E.take j) ++ elOf x from take_fm hx)
          have HE6 := hid' (show mkL (E.take (j + 1)) = mkL (E.take j) ++ mkOf x from take_fm hx)
          have HE7 := hid' (show ftL (E.take (j + 1)) = ftL (E.take j) ++ ftOf x from take_fm hx)
          have HE8 := hid' (evLast_snoc hx)
          have HX := hid' hx
          obtain ⟨I5, hI5⟩ : ∃ I5, I5 = (elL (E.take j)).length := ⟨_, rfl⟩
          obtain ⟨I6, hI6⟩ : ∃ I6, I6 = (mkL (E.take j)).length := ⟨_, rfl⟩
          obtain ⟨I7, hI7⟩ : ∃ I7, I7 = (ftL (E.take j)).length := ⟨_, rfl⟩
          obtain ⟨zz, hzz⟩ : ∃ zz, zz = evLast (E.take j) := ⟨_, rfl⟩
          rw [← hI5, ← hI6, ← hI7, ← hzz]
          have HI5 := hid' hI5
          have HI6 := hid' hI6
          have HI7 := hid' hI7
          have HZ8 := hid' hzz
          clear hx hL hI5 hI6 hI7 hzz
          cases x with
          | elem p kd t y b =>
            have hat : (elL E)[I5]? = some (p, kd, t, y, b) := by rw [HI5.out]; exact fm_at HX.out rfl
            have hlt5 : I5 < N5 := by rw [HN5.out]; exact (List.getElem?_eq_some_iff.1 hat).1
            have hlt5' : (I5 : Int) < (N5 : Int) := by omega
            obtain ⟨ad5, e5, -, hc⟩ := (HR5.out.below HL.out) I5 _ hat
            subst e5
            have hb1 := bel_alloc (bel_refl wr) (.cells #[.int .i64 p, .int .i64 kd, .int .i64 t, .string y, .bool b] 41)
            have HK1 := hid' (Blk.new_ wr 41 #[.int .i64 p, .int .i64 kd, .int .i64 t, .string y, .bool b])
            have HB1 := hid' (bel_then HL.out hb1)
            have g0 : wr.cell? (ad5.add (I5 * 5)) = some (.int .i64 p) := hc 0 _ rfl
            have g1 : wr.cell? ⟨(ad5.add (I5 * 5)).block, (ad5.add (I5 * 5)).off + 1, none⟩ = some (.int .i64 kd) := hc 1 _ rfl
            have g2 : wr.cell? ⟨(ad5.add (I5 * 5)).block, (ad5.add (I5 * 5)).off + 2, none⟩ = some (.int .i64 t) := hc 2 _ rfl
            have g3 : wr.cell? ⟨(ad5.add (I5 * 5)).block, (ad5.add (I5 * 5)).off + 3, none⟩ = some (.string y) := hc 3 _ rfl
            have g4 : wr.cell? ⟨(ad5.add (I5 * 5)).block, (ad5.add (I5 * 5)).off + 4, none⟩ = some (.bool b) := hc 4 _ rfl
            have G0 := hid' ((hb1.cell (World.block_lt_of_cell? wr _ g0)).trans g0)
            have G1 := hid' ((hb1.cell (World.block_lt_of_cell? wr _ g1)).trans g1)
            have G2 := hid' ((hb1.cell (World.block_lt_of_cell? wr _ g2)).trans g2)
            have G3 := hid' ((hb1.cell (World.block_lt_of_cell? wr _ g3)).trans g3)
            have G4 := hid' ((hb1.cell (World.block_lt_of_cell? wr _ g4)).trans g4)
            have t1 := ta_ee
            simp only [evV] at hcell
            clear hat hc hb1 g0 g1 g2 g3 g4
            go_wp2
            generalize wr.alloc (.cells #[.int .i64 p, .int .i64 kd, .int .i64 t, .string y, .bool b] 41) = wa at *
            have g0 := G0.out
            have g1 := G1.out
            have g2 := G2.out
            have g3 := G3.out
            have g4 := G4.out
            have n0 : wa.cell? ⟨wr.heap.size, 0, none⟩ = some (.int .i64 p) := HK1.out.cell 0
            have n1 : wa.cell? ⟨wr.heap.size, 1, none⟩ = some (.int .i64 kd) := HK1.out.cell 1
            have n2 : wa.cell? ⟨wr.heap.size, 2, none⟩ = some (.int .i64 t) := HK1.out.cell 2
            have n3 : wa.cell? ⟨wr.heap.size, 3, none⟩ = some (.string y) := HK1.out.cell 3
            have n4 : wa.cell? ⟨wr.heap.size, 4, none⟩ = some (.bool b) := HK1.out.cell 4
            clear hcell t1
            go_quiet (fail)
            all_goals
              go_wp2
              go_roundw
              case rel => exact ⟨j + 1, by omega, by go_num, by rw [HE5.out, List.length_append, ← HI5.out]; go_num, by rw [HE6.out, HI6.out]; simp [mkOf], by rw [HE7.out, HI7.out]; simp [ftOf], by rw [HE8.out, HZ8.out]; rfl, by first | exact HB1.out | exact bel_drewN HB1.out _⟩
              case measure => (simp only [intOf]; omega)
          | mark a =>
            have hat : (mkL E)[I6]? = some a := by rw [HI6.out]; exact fm_at HX.out rfl
            have hlt5 : I6 < N6 := by rw [HN6.out]; exact (List.getElem?_eq_some_iff.1 hat).1
            have hlt5' : (I6 : Int) < (N6 : Int) := by omega
            obtain ⟨ad5, e5, -, hc⟩ := (HR6.out.below HL.out) I6 _ hat
            subst e5
            have hb1 := bel_alloc (bel_refl wr) (.cells #[.int .i64 a] 45)
            have HK1 := hid' (Blk.new_ wr 45 #[.int .i64 a])
            have HB1 := hid' (bel_then HL.out hb1)
            have g0 : wr.cell? (ad5.add I6) = some (.int .i64 a) := by have := hc 0 _ rfl; rw [Nat.mul_one] at this; exact this
            have G0 := hid' ((hb1.cell (World.block_lt_of_cell? wr _ g0)).trans g0)
            have t1 := ta_me
            have t2 := ta_mm
            simp only [evV] at hcell
            clear hat hc hb1 g0
            go_wp2
            generalize wr.alloc (.cells #[.int .i64 a] 45) = wa at *
            have g0 := G0.out
            have n0 : wa.cell? ⟨wr.heap.size, 0, none⟩ = some (.int .i64 a) := HK1.out.cell 0
            clear hcell t1 t2
            go_quiet (fail)
            all_goals
              go_wp2
              go_roundw
              case rel => exact ⟨j + 1, by omega, by go_num, by rw [HE5.out, HI5.out]; simp [elOf], by rw [HE6.out, List.length_append, ← HI6.out]; go_num, by rw [HE7.out, HI7.out]; simp [ftOf], by rw [HE8.out]; rfl, by first | exact HB1.out | exact bel_drewN HB1.out _⟩
              case measure => (simp only [intOf]; omega)
          | fault p c =>
            have hat : (ftL E)[I7]? = some (p, c) := by rw [HI7.out]; exact fm_at HX.out rfl
            have hlt5 : I7 < N7 := by rw [HN7.out]; exact (List.getElem?_eq_some_iff.1 hat).1
            have hlt5' : (I7 : Int) < (N7 : Int) := by omega
            obtain ⟨ad5, e5, -, hc⟩ := (HR7.out.below HL.out) I7 _ hat
            subst e5
            have hb1 := bel_alloc (bel_refl wr) (.cells #[.int .i64 p, .int .i64 c] 50)
            have HK1 := hid' (Blk.new_ wr 50 #[.int .i64 p, .int .i64 c])
            have HB1 := hid' (bel_then HL.out hb1)
            have g0 : wr.cell? (ad5.add (I7 * 2)) = some (.int .i64 p) := hc 0 _ rfl
            have g1 : wr.cell? ⟨(ad5.add (I7 * 2)).block, (ad5.add (I7 * 2)).off + 1, none⟩ = some (.int .i64 c) := hc 1 _ rfl
            have G0 := hid' ((hb1.cell (World.block_lt_of_cell? wr _ g0)).trans g0)
            have G1 := hid' ((hb1.cell (World.block_lt_of_cell? wr _ g1)).trans g1)
            have t1 := ta_fe
            have t2 := ta_fm
            have t3 := ta_ff
            simp only [evV] at hcell
            clear hat hc hb1 g0 g1
            go_wp2
            generalize wr.alloc (.cells #[.int .i64 p, .int .i64 c] 50) = wa at *
            have g0 := G0.out
            have g1 := G1.out
            have n0 : wa.cell? ⟨wr.heap.size, 0, none⟩ = some (.int .i64 p) := HK1.out.cell 0
            have n1 : wa.cell? ⟨wr.heap.size, 1, none⟩ = some (.int .i64 c) := HK1.out.cell 1
            clear hcell t1 t2 t3
            go_quiet (fail)
            all_goals
              go_wp2
              go_roundw
              case rel => exact ⟨j + 1, by omega, by go_num, by rw [HE5.out, HI5.out]; simp [elOf], by rw [HE6.out, HI6.out]; simp [mkOf], by rw [HE7.out, List.length_append, ← HI7.out]; go_num, by rw [HE8.out, HZ8.out]; rfl, by first | exact HB1.out | exact bel_drewN HB1.out _⟩
              case measure => (simp only [intOf]; omega)
        · obtain rfl : j = k := by omega
          rw [show E.take j = E from List.take_of_length_le (Nat.le_of_eq HEL.out), ← HN5.out, ← HN6.out, ← HN7.out, ← HZZ.out]
          clear hL
          go_wp2_with fail
          refine (HLA.out _ (HR4.out.below HL.out)).mono ?_
          rintro e w5 ⟨rfl, hB5⟩
          have HL5 := hid' (bel_then (bel_then HL4.out HL.out) hB5)
          clear hB5
          go_wp2
          go_ret
          exact ⟨rfl, HL5.out⟩
end Go.Proofs.YtioaijjmialdoaaDoor
