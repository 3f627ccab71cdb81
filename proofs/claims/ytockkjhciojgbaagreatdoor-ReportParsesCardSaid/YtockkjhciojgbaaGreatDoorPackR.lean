/- Several texts as one. No condition beyond each one's own. -/
import Derived.Test.YtockkjhciojgbaaGreatDoorPackCb
import Derived.Test.YtockkjhciojgbaaGreatDoorPackEv
import Derived.Test.YtockkjhciojgbaaGreatDoorApp
import Derived.Test.YtockkjhciojgbaaGreatDoorCells2
import Derived.Deep.RegionLaw
import Derived.Deep.AppendLies
import Derived.Laws.AppendOwn
import Derived.Laws.Append
import Derived.Test.YtockkjhciojgbaaGreatDoorPackF
import Derived.Test.YtockkjhciojgbaaGreatDoorPackQ
import Derived.Test.YtockkjhciojgbaaGreatDoorTabsQB
import Derived.Deep.Cut
import Derived.Test.YtockkjhciojgbaaGreatDoorPackE
/- Rep -/
/- A report's lines (package report): a word and numbers; how many elements are late (package judge); rows appended to twice, walked. No condition but the tables of Go's own. -/
namespace Go.Proofs.YtockkjhciojgbaaGreatDoor
set_option maxRecDepth 100000
set_option linter.unusedSimpArgs false
open Go.RowKit
set_option linter.unusedVariables false
set_option linter.unusedSimpArgs false

set_option maxHeartbeats 4000000 in
theorem report_number (s : ByteArray) (A : Option Addr) (c : Nat) (l : List Int) (w : World) (hr : Rd w A (l.map iV)) (hI : ∀ n ∈ l, I64 n) (hl : l.length ≤ 100) (hs : s.size ≤ 100) (hP : PowT w) :
    Calls Tryz.prog 19 #[.string s, .slice A l.length c] w fun e w' => e = .returned (.string (strOf (lnL (bL s) l))) ∧ Below w.heap.size w w' := by
  have HR := hid' hr
  have HI := hid' hI
  have HP := hid' hP
  have HB0 := hid' (bel_refl w)
  have hsz := fun k => wordsL_len (l := l.take k) (fun n hn => hI n (List.mem_of_mem_take hn))
  have HSZ := hid' hsz
  have h0 : s = strOf (bL s ++ wordsL (l.take 0)) := by rw [List.take_zero]; exact bL_inj (by rw [bL_str]; simp [wordsL])
  have HS0 := hid' h0
  clear hr hI hP hsz h0
  go_enter Tryz.func19, Tryz.ntmps19
  go_wp2
  go_loopw [0, 6, 9] (fun v0 v6 v9 wr => ∃ k : Nat, k ≤ l.length ∧ v9 = .int .i64 k ∧ v0 = .string (strOf (bL s ++ wordsL (l.take k))) ∧ Below w.heap.size w wr) (fun _ _ v9 _ => l.length - (intOf v9).toNat)
  case atStart => exact ⟨0, Nat.zero_le _, rfl, by rw [← HS0.out], HB0.out⟩
  case round =>
    obtain ⟨k, hk, rfl, rfl, hL⟩ := hrel
    have HL := hid' hL
    have hlen := HSZ.out k
    rw [List.length_take] at hlen
    obtain ⟨p, hp⟩ : ∃ p, p = strOf (bL s ++ wordsL (l.take k)) := ⟨_, rfl⟩
    have hps : p.size ≤ 2400 := by
      rw [hp]
      show (bL s ++ wordsL (l.take k)).length ≤ _
      rw [List.length_append, bL_len]; omega
    rw [← hp]
    have HPP := hid' hp
    by_cases hlt : k < l.length
    · have hlti : (k : Int) < (l.length : Int) := by omega
      obtain ⟨ad, n, rfl, hx, hcell⟩ := (HR.out.below hL).at_ hlt
      change wr.cell? (ad.add k) = some (.int .i64 n) at hcell
      have hn := HI.out n (List.mem_of_getElem? hx)
      have hz := numT_size hn
      have HT := hid' (itoaW n wr hn (HP.out.below hL))
      have hnext : p ++ ((⟨#[32]⟩ : ByteArray) ++ numT n) = strOf (bL s ++ wordsL (l.take (k + 1))) := by
        rw [hp, List.take_add_one, hx, Option.toList_some, wordsL_snoc]
        unfold numT
        rw [show (⟨#[32]⟩ : ByteArray) = strOf [32] from rfl, strN_app, strN_app]
        simp
      have HNX := hid' hnext
      have h1 : 1 + (numT n).size ≤ 9223372036854775807 := by omega
      have h2 : p.size + (1 + (numT n).size) ≤ 9223372036854775807 := by omega
      have h3 : p.size + ((⟨#[32]⟩ : ByteArray) ++ numT n).size ≤ 9223372036854775807 := by rw [ByteArray.size_append]; exact h2
      clear hL hx hp hnext hlen hps
      generalize numT n = y at *
      go_wp2_with fail
      refine HT.out.mono ?_
      rintro e w2 ⟨rfl, hB2⟩
      go_wp2
      go_roundw
      case rel => exact ⟨k + 1, by omega, by go_num, by rw [← HNX.out], bel_then HL.out hB2⟩
      case measure => (simp only [intOf]; omega)
    · obtain rfl : k = l.length := by omega
      rw [List.take_length] at HPP
      have hend : p ++ (⟨#[10]⟩ : ByteArray) = strOf (lnL (bL s) l) := by
        rw [HPP.out, show (⟨#[10]⟩ : ByteArray) = strOf [10] from rfl, strN_app]; rfl
      have HE := hid' hend
      have h1 : p.size + 1 ≤ 9223372036854775807 := by omega
      clear hL hp hend
      go_wp2
      go_ret
      refine ⟨?_, HL.out⟩
      rw [← HE.out]
      first | rfl | go_simp

def lateN (l : List El) : Nat := (l.filter fun x => x.2.2.2.2).length
theorem lateN_take {l : List El} {k : Nat} {x : El} (h : l[k]? = some x) : lateN (l.take (k + 1)) = lateN (l.take k) + if x.2.2.2.2 = true then 1 else 0 := by
  unfold lateN
  rw [List.take_add_one, h, Option.toList_some, List.filter_append, List.length_append]
  cases hb : x.2.2.2.2 <;> simp [hb]
theorem lateN_le (l : List El) (k : Nat) : lateN (l.take k) ≤ k := by
  unfold lateN
  exact Nat.le_trans (List.length_filter_le _ _) (by rw [List.length_take]; omega)
set_option maxHeartbeats 4000000 in
theorem judge_Lates (A : Option Addr) (c : Nat) (l : List Ev) (w : World) (hr : Rd w A (l.map evV)) (hl : l.length ≤ 100000) :
    Calls Tryz.prog 28 #[.slice A l.length c] w fun e w' => e = .returned (.int .i64 (lateN (elL l) : Int)) ∧ Below w.heap.size w w' := by
  have HO := hid' (of_elem A c l w hr hl)
  have hel := elL_len l
  obtain ⟨L, hL⟩ : ∃ L, L = elL l := ⟨_, rfl⟩
  rw [← hL] at HO hel ⊢
  clear hr hL
  go_enter Tryz.func28, Tryz.ntmps28
  go_wp2_with fail
  refine HO.out.mono ?_
  rintro e w1 ⟨v, rfl, hown, hB1⟩
  obtain ⟨A1, c1, rfl, -, -, hrd⟩ := own_rd hown
  have HR := hid' (RdS.of_rd' (sz := 5) (f := fEl) (fun x => rfl) (by decide) hrd)
  have HB1 := hid' hB1
  clear hown hrd hB1
  go_wp2
  go_loopw [3, 9] (fun v3 v9 wr => ∃ k : Nat, k ≤ L.length ∧ v9 = .int .i64 k ∧ v3 = .int .i64 (lateN (L.take k) : Int) ∧ Below w.heap.size w wr ∧ Below w1.heap.size w1 wr) (fun _ v9 _ => L.length - (intOf v9).toNat)
  case atStart => exact ⟨0, Nat.zero_le _, rfl, by rw [List.take_zero]; rfl, HB1.out, bel_refl _⟩
  case round =>
    obtain ⟨k, hk, rfl, rfl, hb, hb1⟩ := hrel
    by_cases hlt : k < L.length
    · have hx := List.getElem?_eq_getElem hlt
      have hle := lateN_le L k
      generalize L[k] = x at hx
      obtain ⟨p, kd, t, tx, late⟩ := x
      obtain ⟨ad, rfl, -, hc⟩ := HR.out k _ hx
      have tow := fun (p : Addr) (v : Value) (h : w1.cell? p = some v) => (hb1.cell (World.block_lt_of_cell? w1 p h)).trans h
      have d0 := tow _ _ (hc 0 _ rfl)
      have d1 := tow _ _ (hc 1 _ rfl)
      have d2 := tow _ _ (hc 2 _ rfl)
      have d3 := tow _ _ (hc 3 _ rfl)
      have d4 := tow _ _ (hc 4 _ rfl)
      change wr.cell? (ad.add (k * 5)) = some (.int .i64 p) at d0
      change wr.cell? ⟨(ad.add (k * 5)).block, (ad.add (k * 5)).off + 1, none⟩ = some (.int .i64 kd) at d1
      change wr.cell? ⟨(ad.add (k * 5)).block, (ad.add (k * 5)).off + 2, none⟩ = some (.int .i64 t) at d2
      change wr.cell? ⟨(ad.add (k * 5)).block, (ad.add (k * 5)).off + 3, none⟩ = some (.string tx) at d3
      change wr.cell? ⟨(ad.add (k * 5)).block, (ad.add (k * 5)).off + 4, none⟩ = some (.bool late) at d4
      have HT := hid' (lateN_take hx)
      have HB := hid' hb
      have HBB := hid' hb1
      clear tow hc hx hb hb1
      generalize lateN (L.take k) = m at *
      cases late with
      | true =>
        go_wp2
        go_roundw
        case rel => exact ⟨k + 1, by omega, by go_num, by rw [HT.out]; go_num, bel_alloc HB.out _, bel_alloc HBB.out _⟩
        case measure => (simp only [intOf]; omega)
      | false =>
        go_wp2
        go_roundw
        case rel => exact ⟨k + 1, by omega, by go_num, by rw [HT.out]; rfl, bel_alloc HB.out _, bel_alloc HBB.out _⟩
        case measure => (simp only [intOf]; omega)
    · obtain rfl : k = L.length := by omega
      rw [List.take_length]
      go_wp2
      go_ret
      exact ⟨rfl, hb⟩
end Go.Proofs.YtockkjhciojgbaaGreatDoor
/- RepApp -/
/- append(row, piece) where the old row is looked at again: it stands as it was. No condition. -/
namespace Go.Proofs.YtockkjhciojgbaaGreatDoor
set_option maxRecDepth 100000
set_option linter.unusedSimpArgs false
open Go.RowKit
set_option linter.unusedVariables false

theorem run_app_keep {P : Program} (w : World) (base : Nat) (t ty e : TypeId) (z : Value) (size bytes : Nat) (ht : P.underlying t = some (.slice e)) (hinfo : (P.info? e).map (fun i => (i.zero, i.size, i.bytes)) = some (some z, size, bytes)) (hz : z.cells.size = size) (hs0 : 0 < size)
    (v : Value) (n : Nat) (xs : List Value) (HO : w.ownsRow base e size v n xs) (ad : Addr) (m c : Nat) (ys : List Value) (hl : ys.length = m * size) (hr : Rd w (some ad) ys) (h1 : ∀ u ∈ ys, u.oneCell' = true)
    (h63 : n + m ≤ maxLen) (hbytes : (n + m) * bytes ≤ 140737488355328) (hbase : base ≤ w.heap.size) :
    ∃ v' w', (Builtin.append_ #[t, t] ty #[v, .slice (some ad) m c]).run P w = .ok v' w' ∧ (w'.ownsRow base e size v' (n + m) (xs ++ ys) ∧ w.grownBy w' v.ownBlock ∧ (v'.ownBlock = v.ownBlock ∨ v'.ownBlock = some w.heap.size) ∧ w'.ownsRow base e size v n xs) := by
  obtain ⟨v', w', hrun, g2, g3, g4⟩ := run_app (P := P) w base t ty e z size bytes ht hinfo hz hs0 v n xs HO (some ad) m c ys hl hr h1 h63 hbytes hbase
  refine ⟨v', w', hrun, g2, g3, g4, HO.1, ?_⟩
  obtain ⟨i0, hi, hzz⟩ := Option.map_eq_some_iff.1 hinfo
  simp only [Prod.mk.injEq] at hzz
  obtain ⟨hz0, rfl, rfl⟩ := hzz
  have hnews : ∀ j u, ys[j]? = some u → w.cell? (ad.add j) = some u := fun j u hj => by obtain ⟨ad', e, hc⟩ := hr j u hj; injection e with e; subst e; exact hc
  rcases HO.2 with ⟨rfl, rfl⟩ | ⟨g, cap, cur, rfl, hbg, hg, hnc, hcm, hcs, htake⟩
  · exact .inl ⟨rfl, rfl⟩
  · right
    by_cases hroom : n + m ≤ cap
    · have hfit : n * i0.size + ys.length ≤ cur.size := by rw [hl, hcs, ← Nat.add_mul]; exact Nat.mul_le_mul_right _ hroom
      have hr2 := run_append_room (P := P) w t ty e i0 ht hi g n cap cur hg ad m c ys hl hnews h1 hroom hfit
      rw [hrun] at hr2
      injection hr2 with ev ew
      subst ev
      rcases g2.2 with ⟨h, _⟩ | ⟨g', cap', cur', hv, _, hh', _, _, hcs', ht'⟩
      · simp at h
      · simp only [Value.slice.injEq, Option.some.injEq, Addr.mk.injEq] at hv
        obtain ⟨⟨rfl, -, -⟩, -, rfl⟩ := hv
        refine ⟨g, cap, cur', rfl, hbg, hh', hnc, hcm, hcs', ?_⟩
        have h3 := congrArg (List.take (n * i0.size)) ht'
        rw [List.take_take, Nat.min_eq_left (Nat.mul_le_mul_right _ (by omega)), List.take_append_of_le_length (by rw [HO.1]; exact Nat.le_refl _), List.take_of_length_le (show xs.length ≤ n * i0.size by rw [HO.1]; exact Nat.le_refl _)] at h3
        exact h3
    · have hh1 : ((n + m : Nat) : Int) ≤ 9223372036854775807 := by unfold maxLen at h63; omega
      have hr2 := run_append_grow (P := P) w t ty e i0 z ht hi hz0 ⟨g, 0, none⟩ n cap xs HO.1 (fun j u hj => HO.cells (g := g) rfl j u hj) ad m c ys hl hnews (by omega) hh1 (growslice_fits (by omega) hbytes)
      rw [hrun] at hr2
      injection hr2 with ev ew
      subst ew
      exact ⟨g, cap, cur, rfl, hbg, (heap_alloc_old w.drew _ (Array.getElem?_eq_some_iff.1 hg).1).trans hg, hnc, hcm, hcs, htake⟩
end Go.Proofs.YtockkjhciojgbaaGreatDoor
/- RepR -/
/- A script on its way (package report: reader.line), walked. No condition but the tables of Go's own. -/
namespace Go.Proofs.YtockkjhciojgbaaGreatDoor
set_option maxRecDepth 100000
set_option linter.unusedSimpArgs false
open Go.RowKit
set_option linter.unusedVariables false
set_option linter.unusedSimpArgs false

/-- Go's own tables, all that a report wants -/
def TabT (w : World) : Prop := PowT w ∧ ErV w ∧ MaxT w ∧ U8T w ∧ TzT w
theorem TabT.below {w w' : World} (h : TabT w) (hb : Below w.heap.size w w') : TabT w' := ⟨h.1.below hb, h.2.1.below hb, h.2.2.1.below hb, h.2.2.2.1.below hb, h.2.2.2.2.below hb⟩
def sV (x : List UInt8) : Value := .string (strOf x)
/-- A script on its way, in memory. -/
def Rdr (w : World) (B g : Nat) (r : RSt) : Prop :=
  ∃ cv lv kv hv, Blk w g 73 #[cv, .int .i64 r.cfg.2.1, .int .i64 r.cfg.2.2, lv, kv, hv, .int .i64 (r.part : Int)] ∧ w.ownsRow B 24 5 cv r.cfg.1.length (r.cfg.1.flatMap fRl) ∧ w.ownsRow B 9 1 lv r.logs.length (r.logs.map sV) ∧
    w.ownsRow B 52 2 kv r.chs.length (r.chs.flatMap fCh) ∧ w.ownsRow B 9 1 hv r.head.length (r.head.map sV) ∧ (∀ k, lv.ownBlock = some k → hv.ownBlock ≠ some k) ∧ B ≤ g
theorem Rdr.below {w w' : World} {B g : Nat} {r : RSt} (h : Rdr w B g r) (hb : Below w.heap.size w w') : Rdr w' B g r := by
  obtain ⟨cv, lv, kv, hv, h1, h2, h3, h4, h5, h6⟩ := h
  exact ⟨cv, lv, kv, hv, h1.below hb, own_below h2 hb, own_below h3 hb, own_below h4 hb, own_below h5 hb, h6⟩
theorem isLog_pre (s : ByteArray) : Lib.hasPrefix s.data.toList ([108, 111, 103, 32] : List UInt8) = isLog (bL s) := by
  unfold Lib.hasPrefix isLog wLog bL
  rw [Bool.eq_iff_iff, decide_eq_true_iff, List.isPrefixOf_iff_prefix, List.prefix_iff_eq_take]
  exact ⟨fun h => h.symm, fun h => h.symm⟩
theorem isLog_trim (s : ByteArray) (h : isLog (bL s) = true) : (⟨(Lib.trimPrefix s.data.toList ([108, 111, 103, 32] : List UInt8)).toArray⟩ : ByteArray) = strOf ((bL s).drop 4) := by
  unfold Lib.trimPrefix
  rw [isLog_pre, if_pos h]; rfl
theorem cfg_of_parse {x : ByteArray} {l : List ByteArray} {a b : Int} (hh : headP (bL x) = some (a, b)) (hok : ∀ y ∈ l, rokP y = true) : cfgO ((x :: l).map bL) = some (l.map rvP, a, b) := by
  have ha : allR (l.map bL) = some (l.map rvP) := by
    induction l with
    | nil => rfl
    | cons y l ih =>
      have h1 := hok y (List.mem_cons_self ..)
      unfold rokP at h1
      obtain ⟨r, hr⟩ := Option.isSome_iff_exists.1 h1
      rw [List.map_cons, allR_cons, hr, ih (fun z hz => hok z (List.mem_cons_of_mem _ hz)), List.map_cons]
      unfold rvP
      rw [hr]
      rfl
  rw [List.map_cons, cfgO_cons, hh, ha]
theorem cfg_of_bad : ∀ {xs : List ByteArray}, parseBad xs ≠ 0 → cfgO (xs.map bL) = none
  | [], _ => rfl
  | x :: l, h => by
    rw [List.map_cons, cfgO_cons]
    cases hh : headP (bL x) with
    | none => rfl
    | some p =>
      have hb : badIdx l ≠ none := by
        intro e
        apply h
        show (match headP (bL x) with | none => 1 | some _ => match badIdx l with | some k => k + 2 | none => 0) = 0
        rw [hh, e]
      have ha : allR (l.map bL) = none := by
        clear h hh
        induction l with
        | nil => exact absurd rfl hb
        | cons y l ih =>
          rw [List.map_cons, allR_cons]
          by_cases hy : rokP y = true
          · have h2 : badIdx l ≠ none := by
              intro e
              apply hb
              unfold badIdx
              rw [if_pos hy, e]; rfl
            rw [ih h2]
            cases ruleP (bL y) <;> rfl
          · unfold rokP at hy
            cases hr : ruleP (bL y) with
            | none => rfl
            | some r => rw [hr] at hy; exact absurd rfl hy
      rw [ha]
theorem strs_sV (l : List (List UInt8)) : l.map sV = (l.map strOf).map Value.string := by rw [List.map_map]; rfl
theorem strs_bL (l : List (List UInt8)) : (l.map strOf).map bL = l := by
  rw [List.map_map]
  conv => rhs; rw [← List.map_id l]
  rfl
theorem Rdr.lt {w : World} {B g : Nat} {r : RSt} (h : Rdr w B g r) : g < w.heap.size := by
  obtain ⟨cv, lv, kv, hv, h1, _⟩ := h; exact h1.lt
/-- one more text -/
theorem app_str (base : Nat) (v : Value) (n : Nat) (xs : List Value) (y : Value) (hy : y.oneCell' = true) (ty : TypeId) (W : World) (HO : W.ownsRow base 9 1 v n xs) (hn : n ≤ 100000) (hB : base ≤ W.heap.size) :
    ∃ v' w', (Builtin.append_ #[29, 29] ty #[v, .slice (some ⟨W.heap.size, 0, none⟩) 1 1]).run Tryz.prog (W.alloc (.cells #[y] 9)) = .ok v' w' ∧ Hid (w'.ownsRow base 9 1 v' (n + 1) (xs ++ [y]) ∧ Mod (fun k => v.ownBlock = some k) W w' ∧ (v'.ownBlock = v.ownBlock ∨ ∃ b, v'.ownBlock = some b ∧ W.heap.size ≤ b) ∧ w'.ownsRow base 9 1 v n xs) := by
  have hba := bel_alloc (bel_refl W) (.cells #[y] 9)
  obtain ⟨v', w', h1, h2, h3, h4, h5⟩ := run_app_keep (P := Tryz.prog) (W.alloc (.cells #[y] 9)) base 29 ty 9 (.string ⟨#[]⟩) 1 16 Tryz.underlying29 (by kernel_rfl) rfl (by decide) v n xs (own_below HO hba) ⟨W.heap.size, 0, none⟩ 1 1 [y] rfl ((Blk.new_ W 9 #[y]).rd rfl) (by intro u hu; rw [List.mem_singleton] at hu; subst hu; exact hy) (by unfold maxLen; omega) (by omega) (Nat.le_trans hB hba.size)
  refine ⟨v', w', h1, h2, (Mod.of_below hba).then_ (grown_mod h3) (fun _ _ h => h), ?_, h5⟩
  rcases h4 with h | h
  · exact .inl h
  · exact .inr ⟨_, h, hba.size⟩
/-- one more choice -/
theorem app_cho (base : Nat) (v : Value) (n : Nat) (xs : List Value) (a b : Value) (ha : a.oneCell' = true) (hb : b.oneCell' = true) (ty : TypeId) (W : World) (M : Nat) (HO : W.ownsRow base 52 2 v n xs) (hr : Rd W (some ⟨M, 0, none⟩) [a, b]) (hn : n ≤ 100000) (hB : base ≤ W.heap.size) :
    ∃ v' w', (Builtin.append_ #[30, 30] ty #[v, .slice (some ⟨M, 0, none⟩) 1 1]).run Tryz.prog W = .ok v' w' ∧ Hid (w'.ownsRow base 52 2 v' (n + 1) (xs ++ [a, b]) ∧ Mod (fun k => v.ownBlock = some k) W w') := by
  obtain ⟨v', w', h1, h2, h3, h4⟩ := run_app (P := Tryz.prog) W base 30 ty 52 (.agg #[.bool false, .int .i64 0]) 2 16 Tryz.underlying30 (by kernel_rfl) rfl (by decide) v n xs HO (some ⟨M, 0, none⟩) 1 1 [a, b] rfl hr (by intro u hu; simp at hu; rcases hu with rfl | rfl; exact ha; exact hb) (by unfold maxLen; omega) (by omega) hB
  exact ⟨v', w', h1, h2, grown_mod h3⟩
/-- one more text, in whatever world -/
theorem app_strW (base : Nat) (v : Value) (n : Nat) (xs : List Value) (y : Value) (hy : y.oneCell' = true) (ty : TypeId) (W : World) (M : Nat) (HO : W.ownsRow base 9 1 v n xs) (hr : Rd W (some ⟨M, 0, none⟩) [y]) (hn : n ≤ 100000) (hB : base ≤ W.heap.size) :
    ∃ v' w', (Builtin.append_ #[29, 29] ty #[v, .slice (some ⟨M, 0, none⟩) 1 1]).run Tryz.prog W = .ok v' w' ∧ Hid (w'.ownsRow base 9 1 v' (n + 1) (xs ++ [y]) ∧ Mod (fun k => v.ownBlock = some k) W w' ∧ (v'.ownBlock = v.ownBlock ∨ ∃ b, v'.ownBlock = some b ∧ W.heap.size ≤ b)) := by
  obtain ⟨v', w', h1, h2, h3, h4⟩ := run_app (P := Tryz.prog) W base 29 ty 9 (.string ⟨#[]⟩) 1 16 Tryz.underlying29 (by kernel_rfl) rfl (by decide) v n xs HO (some ⟨M, 0, none⟩) 1 1 [y] rfl hr (by intro u hu; rw [List.mem_singleton] at hu; subst hu; exact hy) (by unfold maxLen; omega) (by omega) hB
  refine ⟨v', w', h1, h2, grown_mod h3, ?_⟩
  rcases h4 with h | h
  · exact .inl h
  · exact .inr ⟨_, h, Nat.le_refl _⟩
theorem cell_allocR {w : World} {a : Addr} {v : Value} (h : w.cell? a = some v) (o : Obj) : (w.alloc o).cell? a = some v := ((bel_alloc (bel_refl w) o).cell (World.block_lt_of_cell? w a h)).trans h
theorem own_own_neR {w : World} {B B' e e' s s' n n' : Nat} {v v' : Value} {xs xs' : List Value} (h : w.ownsRow B e s v n xs) (h' : w.ownsRow B' e' s' v' n' xs') (hne : e ≠ e') (k : Nat) (hk : v.ownBlock = some k) : v'.ownBlock ≠ some k := by
  intro hk'
  rcases h.2 with ⟨rfl, _⟩ | ⟨g, cap, cur, rfl, _, hg, _⟩
  · simp [Value.ownBlock] at hk
  · rcases h'.2 with ⟨rfl, _⟩ | ⟨g', cap', cur', rfl, _, hg', _⟩
    · simp [Value.ownBlock] at hk'
    · simp [Value.ownBlock] at hk hk'
      subst hk hk'
      rw [hg] at hg'
      injection hg' with hg'
      injection hg' with _ h2 _
      exact hne h2
def lineB (r : RSt) (s : List UInt8) : Bool := (lineR r s).2
set_option maxHeartbeats 8000000 in
/-- A log, told. -/
theorem line_log (B g : Nat) (r : RSt) (s : ByteArray) (w : World) (h : Rdr w B g r) (hs : s.size ≤ 10000) (hT : TabT w) (hl : r.logs.length ≤ 10000) (hB : B ≤ w.heap.size) (c1 : isLog (bL s) = true) (c2 : r.part < 2) (c3 : r.head ≠ []) :
    Calls Tryz.prog 35 #[.pointer (some ⟨g, 0, none⟩), .string s] w fun e w' => e = .returned (.bool (lineR r (bL s)).2) ∧ Rdr w' B g (lineR r (bL s)).1 ∧ Mod (fun k => B ≤ k) w w' := by
  have hR : lineR r (bL s) = ({ r with logs := r.logs ++ [(unqP ((bL s).drop 4)).getD []], part := 1 }, (unqP ((bL s).drop 4)).isSome) := by unfold lineR; rw [if_pos ⟨c1, c2, c3⟩]
  rw [hR]
  have HCP := hid' (Tryz.strings_CutPrefix s ⟨#[108, 111, 103, 32]⟩ w)
  rw [show (({ data := #[108, 111, 103, 32] } : ByteArray).data.toList) = [108, 111, 103, 32] from rfl, isLog_pre, isLog_trim s c1, c1] at HCP
  have hus : (strOf ((bL s).drop 4)).size ≤ 40000 := by
    show ((bL s).drop 4).length ≤ _
    rw [List.length_drop, bL_len]; omega
  have HU := hid' (quote_Unquote (strOf ((bL s).drop 4)) w hus hT.2.2.2.1 hT.2.2.2.2 hT.2.1.t)
  rw [bL_str] at HU
  clear hR hus hT
  generalize unqP ((bL s).drop 4) = o at *
  generalize strOf ((bL s).drop 4) = rest at *
  obtain ⟨cv, lv, kv, hv, h1, h2, h3, h4, h5, h6, h7⟩ := h
  obtain ⟨A5, q5, rfl, -, -, -⟩ := own_rd h5
  obtain ⟨A3, q3, rfl, -, -, -⟩ := own_rd h3
  have hhl : (0 : Int) < (r.head.length : Int) := by have := List.length_pos_iff.2 c3; omega
  have hpp : ((r.part : Nat) : Int) < 2 := by omega
  have d6 : w.cell? ⟨g, 6, none⟩ = some (.int .i64 (r.part : Int)) := by simpa using h1.cell 6
  have d5 : w.cell? ⟨g, 5, none⟩ = some (.slice A5 r.head.length q5) := by simpa using h1.cell 5
  have H1 := hid' h1
  have H2 := hid' h2
  have H3 := hid' h3
  have H4 := hid' h4
  have H5 := hid' h5
  obtain ⟨n5, hn5⟩ : ∃ n, n = r.head.length := ⟨_, rfl⟩
  obtain ⟨n3, hn3⟩ : ∃ n, n = r.logs.length := ⟨_, rfl⟩
  obtain ⟨pa, hpa⟩ : ∃ n, n = r.part := ⟨_, rfl⟩
  rw [← hn5] at hhl d5 H1 H5 h6
  rw [← hn3] at hl H1 H3 h6
  rw [← hpa] at hpp d6 H1
  have HN := hid' (And.intro hn5 (And.intro hn3 hpa))
  clear h1 h2 h3 h4 h5 c1 c2 c3 hn5 hn3 hpa
  go_enter Tryz.func35, Tryz.ntmps35
  go_wp2_with fail
  refine HCP.out.mono ?_
  rintro e w1 ⟨rfl, rfl⟩
  go_wp2_with fail
  refine HU.out.mono ?_
  rintro e w2 ⟨rfl, hB2⟩
  have HB2 := hid' hB2
  have HO3 := hid' (own_below H3.out hB2)
  have HS := hid' (H1.out.below hB2)
  have d3 : w2.cell? ⟨g, 3, none⟩ = some (.slice A3 n3 q3) := by simpa using HS.out.cell 3
  have hb2 : B ≤ w2.heap.size := Nat.le_trans hB hB2.size
  clear hB2 d5 d6
  go_wp2_with (at_builtin; (refine wpList_append_ex2 rfl _ _ 29 29 rfl (.slice A3 n3 q3) (.slice (some ⟨w2.heap.size, 0, none⟩) 1 1) rfl rfl _ (app_str B _ n3 _ (.string (uS o)) rfl _ w2 HO3.out (by omega) hb2) ?_); rintro v1 w3 hv; obtain ⟨A9, q9, rfl, -, -, -⟩ := own_rd hv.out.1; have HS3 := hid' (HS.out.mod hv.out.2.1 (own_ne' HO3.out HS.out (by decide))); have d3 := HS3.out.cell 3; have f3 := HS3.out.frozen 3; have f6 := HS3.out.frozen 6; have d6 := HS3.out.cell 6; have sh := HS3.out.shape)
  go_ret
  obtain ⟨e5, e3, e6⟩ := HN.out
  have hne : ∀ {n : Nat} {T : TypeId} {z : Nat} {v : Value} {xs : List Value}, w1.ownsRow B T z v n xs → T ≠ 73 → ∀ k, v.ownBlock = some k → k ≠ g := fun h ht k hk e => own_ne' h H1.out ht (e ▸ hk)
  have hM : Mod (fun k => k = g ∨ (Value.slice A3 n3 q3).ownBlock = some k) w1 ((w3.setCell ⟨g, 3, none⟩ (.slice A9 (n3 + 1) q9)).setCell ⟨g, 6, none⟩ (.int .i64 1)) :=
    ((((Mod.of_below HB2.out).then_ hv.out.2.1 (fun _ _ h => h)).mono (T := fun k => k = g ∨ (Value.slice A3 n3 q3).ownBlock = some k) (fun i _ h => .inr h)).setCell (p := ⟨g, 3, none⟩) (fun _ => .inl rfl) _).setCell (p := ⟨g, 6, none⟩) (fun _ => .inl rfl) _
  have hn9 := own_ne' hv.out.1 HS3.out (by decide)
  refine ⟨rfl, ⟨cv, .slice A9 (n3 + 1) q9, kv, .slice A5 n5 q5, ((HS3.out.set 3 _).set 6 _).cast (by simp), own_mod H2.out hM ?_, ?_, own_mod H4.out hM ?_, ?_, ?_, h7⟩, hM.mono ?_⟩
  · rintro k hk (e | e)
    · exact hne H2.out (by decide) k hk e
    · exact own_own_neR H2.out H3.out (by decide) k hk e
  · have h9 := own_set' (own_set' hv.out.1 (p := ⟨g, 3, none⟩) hn9 (.slice A9 (n3 + 1) q9)) (p := ⟨g, 6, none⟩) hn9 (.int .i64 1)
    rw [e3] at h9 ⊢
    have hu : sV (o.getD []) = .string (uS o) := by cases o <;> rfl
    simpa [hu] using h9
  · rintro k hk (e | e)
    · exact hne H4.out (by decide) k hk e
    · exact own_own_neR H4.out H3.out (by decide) k hk e
  · have h9 := own_mod H5.out hM (by
      rintro k hk (e | e)
      · exact hne H5.out (by decide) k hk e
      · exact h6 k e hk)
    rwa [e5] at h9 ⊢
  · intro k hk hk'
    rcases hv.out.2.2.1 with e | ⟨b, e, hb⟩
    · exact h6 k (e ▸ hk) hk'
    · rw [e] at hk; injection hk with hk
      have := own_lt' H5.out k hk'
      have := HB2.out.size
      omega
  · rintro k _ (e | e)
    · rw [e]; exact h7
    · exact own_base' H3.out k e
set_option maxHeartbeats 8000000 in
/-- A choice, told. -/
theorem line_cho (B g : Nat) (r : RSt) (s : ByteArray) (b : Bool) (n : Int) (w : World) (h : Rdr w B g r) (hs : s.size ≤ 10000) (hT : TabT w) (hl : r.chs.length ≤ 10000) (hB : B ≤ w.heap.size) (c1 : ¬ (isLog (bL s) = true ∧ r.part < 2 ∧ r.head ≠ [])) (c2 : readP (bL s) = some (b, n)) (c3 : r.head ≠ []) :
    Calls Tryz.prog 35 #[.pointer (some ⟨g, 0, none⟩), .string s] w fun e w' => e = .returned (.bool (lineR r (bL s)).2) ∧ Rdr w' B g (lineR r (bL s)).1 ∧ Mod (fun k => B ≤ k) w w' := by
  have hR : lineR r (bL s) = ({ r with chs := r.chs ++ [(b, n)], part := 2 }, true) := by
    unfold lineR; rw [if_neg c1, c2]; simp only; rw [if_pos c3]
  rw [hR]
  have HCP := hid' (Tryz.strings_CutPrefix s ⟨#[108, 111, 103, 32]⟩ w)
  rw [show (({ data := #[108, 111, 103, 32] } : ByteArray).data.toList) = [108, 111, 103, 32] from rfl, isLog_pre] at HCP
  have HRD := hid' (choice_Read s w (by omega) hT.1 hT.2.1 hT.2.2.1)
  rw [c2, show chO (some (b, n)) = .agg #[.bool b, .int .i64 n] from rfl, show (some (b, n)).isSome = true from rfl] at HRD
  clear hR hT c2
  generalize (⟨(Lib.trimPrefix s.data.toList [108, 111, 103, 32]).toArray⟩ : ByteArray) = rest at *
  obtain ⟨cv, lv, kv, hv, h1, h2, h3, h4, h5, h6, h7⟩ := h
  obtain ⟨A5, q5, rfl, -, -, -⟩ := own_rd h5
  obtain ⟨A4, q4, rfl, -, -, -⟩ := own_rd h4
  have hhl : (0 : Int) < (r.head.length : Int) := by have := List.length_pos_iff.2 c3; omega
  have hpp : isLog (bL s) = true → ¬ ((r.part : Nat) : Int) < 2 := fun h1 h2 => c1 ⟨h1, by omega, c3⟩
  have d6 : w.cell? ⟨g, 6, none⟩ = some (.int .i64 (r.part : Int)) := by simpa using h1.cell 6
  have d5 : w.cell? ⟨g, 5, none⟩ = some (.slice A5 r.head.length q5) := by simpa using h1.cell 5
  have H1 := hid' h1
  have H2 := hid' h2
  have H3 := hid' h3
  have H4 := hid' h4
  have H5 := hid' h5
  obtain ⟨n5, hn5⟩ : ∃ n, n = r.head.length := ⟨_, rfl⟩
  obtain ⟨n4, hn4⟩ : ∃ n, n = r.chs.length := ⟨_, rfl⟩
  obtain ⟨pa, hpa⟩ : ∃ n, n = r.part := ⟨_, rfl⟩
  rw [← hn5] at hhl d5 H1 H5 h6
  rw [← hn4] at hl H1 H4
  rw [← hpa] at hpp d6 H1
  have HN := hid' (And.intro hn5 (And.intro hn4 hpa))
  generalize isLog (bL s) = lg at *
  clear h1 h2 h3 h4 h5 c1 c3 hn5 hn4 hpa
  go_enter Tryz.func35, Tryz.ntmps35
  go_wp2_with fail
  refine HCP.out.mono ?_
  rintro e w1 ⟨rfl, rfl⟩
  cases lg
  case' true => have hpp2 := hpp rfl
  all_goals
    clear hpp
    go_wp2_with fail
    refine HRD.out.mono ?_
    rintro e w2 ⟨rfl, hB2⟩
    have hba := bel_alloc hB2 (.cells #[.bool b, .int .i64 n] 52)
    have HBA := hid' hba
    have HS := hid' (H1.out.below hB2)
    have HO4 := hid' (own_below H4.out hba)
    have d5 : w2.cell? ⟨g, 5, none⟩ = some (.slice A5 n5 q5) := by simpa using HS.out.cell 5
    have hb2 : B ≤ w2.heap.size := Nat.le_trans hB hB2.size
    have hgl := HS.out.lt
    have hgn : g ≠ w2.heap.size := by omega
    have hgn' : w2.heap.size ≠ g := by omega
    clear d6
    go_wp2
    clear d5
    have HS1 := hid' (H1.out.below hba)
    have HC1 := hid' (Blk.new_ w2 52 #[.bool b, .int .i64 n])
    have hb3 : B ≤ (w2.alloc (.cells #[.bool b, .int .i64 n] 52)).heap.size := by simp; omega
    generalize hwc : w2.heap.size = cb at *
    generalize w2.alloc (.cells #[.bool b, .int .i64 n] 52) = w3 at *
    have d4 : w3.cell? ⟨g, 4, none⟩ = some (.slice A4 n4 q4) := by simpa using HS1.out.cell 4
    have f0 : w3.cell? ⟨cb, 0, none⟩ = some (.bool b) := by simpa using HC1.out.cell 0
    have f1 : w3.cell? ⟨cb, 1, none⟩ = some (.int .i64 n) := by simpa using HC1.out.cell 1
    have x4 := fun o => cell_allocR d4 o
    have x0 := fun o => cell_allocR f0 o
    have x1 := fun o => cell_allocR f1 o
    have HM5 := hid' (fun (W w5 : World) (h : Below w3.heap.size w3 W) (hm : Mod (fun k => (Value.slice A4 n4 q4).ownBlock = some k) W w5) => (HS1.out.below h).mod hm (own_ne' HO4.out HS1.out (by decide)))
    have HRD3 := hid' ((Blk.new_ w3 52 #[.bool b, .int .i64 n]).rd (xs := [.bool b, .int .i64 n]) rfl)
    have HO4b := hid' (own_below HO4.out (bel_alloc (bel_refl w3) (.cells #[.bool b, .int .i64 n] 52)))
    have hb4 : B ≤ (w3.alloc (.cells #[.bool b, .int .i64 n] 52)).heap.size := by simp; omega
    clear hba hwc hgn hgn'
    go_region_law (first
      | (refine step_append_ex2 rfl (.tmp 75) (.tmp 77) 30 30 rfl (.slice A4 n4 q4) (.slice (some ⟨w3.heap.size, 0, none⟩) 1 1) rfl rfl _ (app_cho B (.slice A4 n4 q4) n4 (r.chs.flatMap fCh) (.bool b) (.int .i64 n) rfl rfl _ _ w3.heap.size (by exact HO4b.out) (by exact HRD3.out) (by omega) (by exact hb4)) ?_; rintro v1 w4 hv; obtain ⟨A9, q9, rfl, -, -, -⟩ := own_rd hv.out.1; have HS4 := hid' (HM5.out _ w4 (by first | exact bel_alloc (bel_refl _) _ | exact bel_drew (bel_alloc (bel_refl _) _) | exact bel_drewN (bel_alloc (bel_refl _) _) _) hv.out.2); have d4 := HS4.out.cell 4; have g4 := HS4.out.frozen 4; have g6 := HS4.out.frozen 6; have d6 := HS4.out.cell 6; have sh := HS4.out.shape))
    all_goals
      clear x4 x0 x1 d4 g4 g6 d6 sh f0 f1
      go_wp2
      go_ret
      obtain ⟨e5, e4, e6⟩ := HN.out
      have hbw : Below w1.heap.size w1 (w3.alloc (.cells #[.bool b, .int .i64 n] 52)) := bel_then HBA.out (bel_alloc (bel_refl _) _)
      have hmv : Mod (fun k => (Value.slice A4 n4 q4).ownBlock = some k) w1 w4 := by
        first
          | exact (Mod.of_below hbw).then_ hv.out.2 (fun _ _ h => h)
          | exact (Mod.of_below (bel_drew hbw)).then_ hv.out.2 (fun _ _ h => h)
      have hne : ∀ {n : Nat} {T : TypeId} {z : Nat} {v : Value} {xs : List Value}, w1.ownsRow B T z v n xs → T ≠ 73 → ∀ k, v.ownBlock = some k → k ≠ g := fun h ht k hk e => own_ne' h H1.out ht (e ▸ hk)
      have hM : Mod (fun k => k = g ∨ (Value.slice A4 n4 q4).ownBlock = some k) w1 ((w4.setCell ⟨g, 4, none⟩ (.slice A9 (n4 + 1) q9)).setCell ⟨g, 6, none⟩ (.int .i64 2)) :=
        ((hmv.mono (T := fun k => k = g ∨ (Value.slice A4 n4 q4).ownBlock = some k) (fun i _ h => .inr h)).setCell (p := ⟨g, 4, none⟩) (fun _ => .inl rfl) _).setCell (p := ⟨g, 6, none⟩) (fun _ => .inl rfl) _
      have hn9 := own_ne' hv.out.1 HS4.out (by decide)
      refine ⟨rfl, ⟨cv, lv, .slice A9 (n4 + 1) q9, .slice A5 n5 q5, ((HS4.out.set 4 _).set 6 _).cast (by simp), own_mod H2.out hM ?_, own_mod H3.out hM ?_, ?_, ?_, h6, h7⟩, hM.mono ?_⟩
      · rintro k hk (e | e)
        · exact hne H2.out (by decide) k hk e
        · exact own_own_neR H2.out H4.out (by decide) k hk e
      · rintro k hk (e | e)
        · exact hne H3.out (by decide) k hk e
        · exact own_own_neR H3.out H4.out (by decide) k hk e
      · have h9 := own_set' (own_set' hv.out.1 (p := ⟨g, 4, none⟩) hn9 (.slice A9 (n4 + 1) q9)) (p := ⟨g, 6, none⟩) hn9 (.int .i64 2)
        rw [e4] at h9 ⊢
        simpa [fCh] using h9
      · have h9 := own_mod H5.out hM (by
          rintro k hk (e | e)
          · exact hne H5.out (by decide) k hk e
          · exact own_own_neR H5.out H4.out (by decide) k hk e)
        rwa [e5] at h9 ⊢
      · rintro k _ (e | e)
        · rw [e]; exact h7
        · exact own_base' H4.out k e
end Go.Proofs.YtockkjhciojgbaaGreatDoor
/- RepS -/
/- A script on its way (package report: reader.line): a line of the configuration, or one that does not belong there, walked. No condition but the tables of Go's own. -/
namespace Go.Proofs.YtockkjhciojgbaaGreatDoor
set_option maxRecDepth 100000
set_option linter.unusedSimpArgs false
open Go.RowKit
set_option linter.unusedVariables false
set_option linter.unusedSimpArgs false

theorem parse_of {w3 w4 : World} {xs : List ByteArray} {e : Ending} (h : PPost w3 xs e w4) :
    ∃ (cA : Option Addr) (cn cq : Nat) (a b : Int) (bd : Nat), e = .returned (.tuple #[.agg #[.slice cA cn cq, .int .i64 a, .int .i64 b], .int .i64 (bd : Int)]) ∧ Below w3.heap.size w3 w4 ∧
      Hid ((bd ≠ 0 ∧ cfgO (xs.map bL) = none) ∨ (bd = 0 ∧ ∃ l, cfgO (xs.map bL) = some (l, a, b) ∧ w4.ownsRow w3.heap.size 24 5 (.slice cA cn cq) l.length (l.flatMap fRl))) := by
  obtain ⟨hc, hB⟩ := h
  rcases hc with ⟨h1, h2⟩ | ⟨h1, x, l, a, b, v, hx, hh, he, hown, hok⟩
  · exact ⟨none, 0, 0, 0, 0, parseBad xs, h2, hB, .inl ⟨h1, cfg_of_bad h1⟩⟩
  · obtain ⟨A', c', rfl, -, -, -⟩ := own_rd hown
    subst hx
    refine ⟨A', _, c', a, b, 0, he, hB, .inr ⟨rfl, l.map rvP, cfg_of_parse hh hok, ?_⟩⟩
    rw [rlRows_map] at hown
    rw [List.length_map]; exact hown
theorem rdr_head {w w6 w7 : World} {B B4 g n : Nat} {r : RSt} {y : List UInt8} {l : List Rl} {ta td : Int} {cv lv kv hv : Value} {A7 cA : Option Addr} {q7 cn cq : Nat} {pa : Nat}
    (hb7 : Blk w7 g 73 #[cv, .int .i64 r.cfg.2.1, .int .i64 r.cfg.2.2, lv, kv, hv, .int .i64 (pa : Int)]) (hpa : pa = r.part) (hn : n = r.head.length) (h3 : w.ownsRow B 9 1 lv r.logs.length (r.logs.map sV)) (h4 : w.ownsRow B 52 2 kv r.chs.length (r.chs.flatMap fCh)) (h5 : w.ownsRow B 9 1 hv n (r.head.map sV))
    (h6 : ∀ k, lv.ownBlock = some k → hv.ownBlock ≠ some k) (h7 : B ≤ g) (h56 : w6.ownsRow B 9 1 hv n (r.head.map sV)) (hcv : w6.ownsRow B4 24 5 (.slice cA cn cq) l.length (l.flatMap fRl)) (hB4 : B ≤ B4)
    (hm6 : Mod (fun k => hv.ownBlock = some k) w w6) (hm7 : Mod (fun k => hv.ownBlock = some k) w6 w7) (hO : w7.ownsRow B 9 1 (.slice A7 (n + 1) q7) (n + 1) (r.head.map sV ++ [sV y])) (hat : (Value.slice A7 (n + 1) q7).ownBlock = hv.ownBlock ∨ ∃ b, (Value.slice A7 (n + 1) q7).ownBlock = some b ∧ w.heap.size ≤ b) :
    Rdr ((((w7.setCell ⟨g, 5, none⟩ (.slice A7 (n + 1) q7)).setCell ⟨g, 0, none⟩ (.slice cA cn cq)).setCell ⟨g, 1, none⟩ (.int .i64 ta)).setCell ⟨g, 2, none⟩ (.int .i64 td)) B g { r with head := r.head ++ [y], cfg := (l, ta, td) } := by
  subst hn hpa
  have hm : Mod (fun k => hv.ownBlock = some k) w w7 := hm6.trans hm7
  have o3 := own_mod h3 hm (fun k hk => h6 k hk)
  have o4 := own_mod h4 hm (fun k hk => own_own_neR h4 h5 (by decide) k hk)
  have oc := own_mod hcv hm7 (fun k hk => own_own_neR hcv h56 (by decide) k hk)
  have nx : ∀ {n : Nat} {T : TypeId} {z : Nat} {v : Value} {xs : List Value} {b : Nat}, w7.ownsRow b T z v n xs → T ≠ 73 → ∀ (i j k m : Nat) (a b' c d : Value), ((((w7.setCell ⟨g, i, none⟩ a).setCell ⟨g, j, none⟩ b').setCell ⟨g, k, none⟩ c).setCell ⟨g, m, none⟩ d).ownsRow b T z v n xs := by
    intro n T z v xs b h ht i j k m a b' c d
    have hne : v.ownBlock ≠ some g := own_ne' h hb7 ht
    exact own_set' (own_set' (own_set' (own_set' h (p := ⟨g, i, none⟩) hne a) (p := ⟨g, j, none⟩) hne b') (p := ⟨g, k, none⟩) hne c) (p := ⟨g, m, none⟩) hne d
  have hcn : cn = l.length := by
    rcases hcv.2 with ⟨e, e2⟩ | ⟨_, _, _, e, _⟩
    · simp at e; omega
    · simp at e; exact e.2.1
  subst hcn
  refine ⟨.slice cA l.length cq, lv, kv, .slice A7 (r.head.length + 1) q7, ((((hb7.set 5 _).set 0 _).set 1 _).set 2 _).cast (by simp), nx (own_lower oc hB4) (by decide) .., nx o3 (by decide) .., nx o4 (by decide) .., ?_, ?_, h7⟩
  · have := nx hO (by decide) 5 0 1 2 (.slice A7 (r.head.length + 1) q7) (.slice cA l.length cq) (.int .i64 ta) (.int .i64 td)
    simpa using this
  · intro k hk hk'
    rcases hat with e | ⟨b, e, hb⟩
    · exact h6 k hk (e ▸ hk')
    · rw [e] at hk'; injection hk' with hk'
      have := own_lt' h3 k hk
      omega
set_option maxHeartbeats 16000000 in
theorem line_rest (B g : Nat) (w0 : World) (hT0 : TabT w0) (hB0 : w0.heap.size = B) (r : RSt) (s : ByteArray) (w : World) (hw0 : Below w0.heap.size w0 w) (h : Rdr w B g r) (hs : s.size ≤ 10000) (hT : TabT w) (hl : r.head.length ≤ 10000) (hz : ∀ x ∈ r.head, x.length ≤ 10000) (hB : B ≤ w.heap.size)
    (c1 : ¬ (isLog (bL s) = true ∧ r.part < 2 ∧ r.head ≠ [])) (c2 : readP (bL s) = none ∨ r.head = []) :
    Calls Tryz.prog 35 #[.pointer (some ⟨g, 0, none⟩), .string s] w fun e w' => e = .returned (.bool (lineR r (bL s)).2) ∧ ((lineR r (bL s)).2 = true → Rdr w' B g (lineR r (bL s)).1) ∧ Mod (fun k => B ≤ k) w w' := by
  have hR : lineR r (bL s) = if 0 < r.part then (r, false) else ({ r with head := r.head ++ [bL s], cfg := (cfgO (r.head ++ [bL s])).getD ([], 0, 0) }, (cfgO (r.head ++ [bL s])).isSome) := by
    unfold lineR
    rw [if_neg c1]
    rcases c2 with h | h
    · rw [h]
    · cases readP (bL s) with
      | none => rfl
      | some c => simp only; rw [if_neg (fun h2 => h2 h)]
  obtain ⟨LR, hLR⟩ : ∃ p, p = lineR r (bL s) := ⟨_, rfl⟩
  rw [← hLR] at hR ⊢
  have HLR := hid' hR
  clear hLR
  have HCP := hid' (Tryz.strings_CutPrefix s ⟨#[108, 111, 103, 32]⟩ w)
  rw [show (({ data := #[108, 111, 103, 32] } : ByteArray).data.toList) = [108, 111, 103, 32] from rfl, isLog_pre] at HCP
  have HRD := hid' (choice_Read s w (by omega) hT.1 hT.2.1 hT.2.2.1)
  have HT := hid' hT0
  have HW0 := hid' hw0
  have HB0 := hid' hB0
  clear hR hT hT0 hw0 hB0
  obtain ⟨cv, lv, kv, hv, h1, h2, h3, h4, h5, h6, h7⟩ := h
  obtain ⟨A5, q5, rfl, -, -, -⟩ := own_rd h5
  have hpp : isLog (bL s) = true → ((r.part : Nat) : Int) < 2 → ¬ (0 : Int) < (r.head.length : Int) := fun a1 a2 a3 => c1 ⟨a1, by omega, fun e => by rw [e] at a3; simp at a3⟩
  have hcc : (readP (bL s)).isSome = true → ¬ (0 : Int) < (r.head.length : Int) := fun a1 a3 => by
    rcases c2 with h | h
    · rw [h] at a1; cases a1
    · rw [h] at a3; simp at a3
  obtain ⟨cc, hcce⟩ : ∃ c, c = readP (bL s) := ⟨_, rfl⟩
  rw [← hcce] at HRD hcc
  have hch : ∃ b n, chO cc = .agg #[.bool b, .int .i64 n] := by cases cc with
    | none => exact ⟨false, 0, rfl⟩
    | some x => exact ⟨x.1, x.2, rfl⟩
  obtain ⟨xb, xn, hch⟩ := hch
  rw [hch] at HRD
  generalize cc.isSome = cB at *
  have HXL := hid' (show (r.head.map sV ++ [Value.string s]) = ((r.head ++ [bL s]).map strOf).map Value.string from by rw [List.map_append, List.map_append, List.map_map]; rfl)
  have HXB := hid' (show ((r.head ++ [bL s]).map strOf).map bL = r.head ++ [bL s] from strs_bL _)
  have HXZ := hid' (show ∀ x ∈ (r.head ++ [bL s]).map strOf, x.size ≤ 10000 from by
    intro x hx
    obtain ⟨y, hy, rfl⟩ := List.mem_map.1 hx
    rcases List.mem_append.1 hy with hy | hy
    · exact hz y hy
    · rw [List.mem_singleton] at hy; subst hy; exact hs)
  have HXN := hid' (show ((r.head ++ [bL s]).map strOf).length = r.head.length + 1 by simp)
  have H1 := hid' h1
  have H2 := hid' h2
  have H3 := hid' h3
  have H4 := hid' h4
  have H5 := hid' h5
  obtain ⟨n5, hn5⟩ : ∃ n, n = r.head.length := ⟨_, rfl⟩
  obtain ⟨pa, hpa⟩ : ∃ n, n = r.part := ⟨_, rfl⟩
  obtain ⟨xs, hxs⟩ : ∃ x, x = (r.head ++ [bL s]).map strOf := ⟨_, rfl⟩
  rw [← hn5] at hl hpp hcc HXN H1 H5 h6
  rw [← hpa] at hpp H1
  rw [← hxs] at HXL HXB HXZ HXN
  have HN := hid' (And.intro hn5 hpa)
  generalize isLog (bL s) = lg at *
  generalize (⟨(Lib.trimPrefix s.data.toList [108, 111, 103, 32]).toArray⟩ : ByteArray) = rest at *
  have d6 : w.cell? ⟨g, 6, none⟩ = some (.int .i64 (pa : Int)) := by simpa using H1.out.cell 6
  have d5 : w.cell? ⟨g, 5, none⟩ = some (.slice A5 n5 q5) := by simpa using H1.out.cell 5
  clear h1 h2 h3 h4 h5 c1 c2 hn5 hpa hz hs hcce hch hxs
  go_enter Tryz.func35, Tryz.ntmps35
  go_wp2_with fail
  refine HCP.out.mono ?_
  rintro e w1 ⟨rfl, rfl⟩
  go_upto_region 2 with (fail)
  go_cut [33] from 15 (fun v33 wx => v33 = .bool false ∧ wx = w1)
  case first =>
    cases lg with
    | false =>
      go_wp2_with fail
      go_meet
      exact ⟨rfl, rfl⟩
    | true =>
      by_cases a1 : (pa : Int) < 2
      · have a2 := hpp rfl a1
        have a3 : ¬ (0 : Int) < (n5 : Int) := by omega
        have a4 : decide (0 < n5) = false := decide_eq_false (by omega)
        go_wp2_with fail
        go_meet
        exact ⟨by first | rfl | rw [a4], rfl⟩
      · go_wp2_with fail
        go_meet
        exact ⟨rfl, rfl⟩
  case rest =>
    obtain ⟨rfl, rfl⟩ := hcut
    go_wp2_with fail
    refine HRD.out.mono ?_
    rintro e w2 ⟨rfl, hB2⟩
    have hgl := H1.out.lt
    have hba := bel_alloc hB2 (.cells #[.bool xb, .int .i64 xn] 52)
    have HBA := hid' hba
    have HS := hid' (H1.out.below hba)
    have hgn : g ≠ w2.heap.size := by have := hB2.size; omega
    have hgn' : w2.heap.size ≠ g := fun e => hgn e.symm
    have d5 : (w2.alloc (.cells #[.bool xb, .int .i64 xn] 52)).cell? ⟨g, 5, none⟩ = some (.slice A5 n5 q5) := by simpa using HS.out.cell 5
    have d6 : (w2.alloc (.cells #[.bool xb, .int .i64 xn] 52)).cell? ⟨g, 6, none⟩ = some (.int .i64 (pa : Int)) := by simpa using HS.out.cell 6
    clear hB2 hba
    go_upto_region 7 with (fail)
    generalize w2.alloc (.cells #[.bool xb, .int .i64 xn] 52) = w3 at *
    go_cut [68] from 60 (fun v68 wx => v68 = .bool false ∧ wx = w3)
    case first =>
      cases cB with
      | false =>
        go_wp2_with fail
        go_meet
        exact ⟨rfl, rfl⟩
      | true =>
        have a2 := hcc rfl
        have a3 : ¬ (0 : Int) < (n5 : Int) := by omega
        have a4 : decide (0 < n5) = false := decide_eq_false (by omega)
        go_wp2_with fail
        go_meet
        exact ⟨by first | rfl | rw [a4], rfl⟩
    case rest =>
      obtain ⟨rfl, rfl⟩ := hcut
      by_cases hpa : (0 : Int) < (pa : Int)
      · have hf : (if 0 < r.part then (r, false) else ({ r with head := r.head ++ [bL s], cfg := (cfgO (r.head ++ [bL s])).getD ([], 0, 0) }, (cfgO (r.head ++ [bL s])).isSome) : RSt × Bool) = (r, false) := if_pos (by rw [← HN.out.2]; omega)
        have HF := hid' (HLR.out.trans hf)
        clear hf
        go_wp2
        go_ret
        rw [HF.out]
        exact ⟨rfl, fun h => (by cases h), (Mod.of_below HBA.out)⟩
      · have hf : (if 0 < r.part then (r, false) else ({ r with head := r.head ++ [bL s], cfg := (cfgO (r.head ++ [bL s])).getD ([], 0, 0) }, (cfgO (r.head ++ [bL s])).isSome) : RSt × Bool) = ({ r with head := r.head ++ [bL s], cfg := (cfgO (r.head ++ [bL s])).getD ([], 0, 0) }, (cfgO (r.head ++ [bL s])).isSome) := if_neg (by rw [← HN.out.2]; omega)
        have HF := hid' (HLR.out.trans hf)
        have HO5 := hid' (own_below H5.out HBA.out)
        have hbw : B ≤ wc.heap.size := Nat.le_trans hB HBA.out.size
        clear hf hpp hcc HRD HCP
        go_wp2_with (at_builtin; (refine wpList_append_ex2 rfl _ _ 29 29 rfl (.slice A5 n5 q5) (.slice (some ⟨wc.heap.size, 0, none⟩) 1 1) rfl rfl _ (app_str B _ n5 _ (.string s) rfl _ wc HO5.out (by omega) hbw) ?_); rintro v1 w4 hv; obtain ⟨A9, q9, rfl, hle9, hcm9, hrd9⟩ := own_rd hv.out.1; have HRD9 := hid' hrd9; clear hrd9 hcm9)
        have HS4 := hid' (HS.out.mod hv.out.2.1 (own_ne' HO5.out HS.out (by decide)))
        have hb4 : B ≤ w4.heap.size := Nat.le_trans hbw hv.out.2.1.size
        have HW4 := hid' (show Below w0.heap.size w0 w4 from bel_mod (bel_then HW0.out HBA.out) hv.out.2.1 (fun i hi e => by have h9 := own_base' HO5.out i e; have h8 := HB0.out; omega))
        have HT4 := HT.out.below HW4.out
        have hpc := config_Parse A9 q9 xs w4 (by rw [← HXL.out]; exact HRD9.out) (by rw [HXN.out]; omega) (by rw [HXN.out]; exact hle9) HXZ.out HT4.1 HT4.2.1 HT4.2.2.1
        rw [HXN.out] at hpc
        clear HT4 hle9 d5 d6
        refine hpc.mono ?_
        rintro e w5 hp5
        obtain ⟨cA, cn, cq, ta, td, bd, rfl, hB5, HP⟩ := parse_of hp5
        rw [HXB.out] at HP
        have hba := bel_alloc hB5 (.cells #[.slice cA cn cq, .int .i64 ta, .int .i64 td] 27)
        have HBA6 := hid' hba
        have HS6 := hid' (HS4.out.below hba)
        have HO6 := hid' (own_below hv.out.2.2.2 hba)
        have hgn5 : g ≠ w5.heap.size := by have h9 := HS4.out.lt; have := hB5.size; omega
        have hgn5' : w5.heap.size ≠ g := fun e => hgn5 e.symm
        have HC6 := hid' (Blk.new_ w5 27 #[.slice cA cn cq, .int .i64 ta, .int .i64 td])
        have hb6 : B ≤ (w5.alloc (.cells #[.slice cA cn cq, .int .i64 ta, .int .i64 td] 27)).heap.size := Nat.le_trans hb4 hba.size
        have HP6 := hid' (show ∀ l : List Rl, w5.ownsRow w4.heap.size 24 5 (.slice cA cn cq) l.length (l.flatMap fRl) → (w5.alloc (.cells #[.slice cA cn cq, .int .i64 ta, .int .i64 td] 27)).ownsRow w4.heap.size 24 5 (.slice cA cn cq) l.length (l.flatMap fRl) from fun l h => own_below h (bel_alloc (bel_refl w5) _))
        have HB5 := hid' hB5
        clear hpc hp5 hB5 hba
        go_upto_region 13 with (fail)
        generalize hcb : w5.heap.size = cb at *
        have HCB := hid' hcb
        generalize w5.alloc (.cells #[.slice cA cn cq, .int .i64 ta, .int .i64 td] 27) = w6 at *
        clear hcb
        have d5 : w6.cell? ⟨g, 5, none⟩ = some (.slice A5 n5 q5) := by simpa using HS6.out.cell 5
        have f0 : w6.cell? ⟨cb, 0, none⟩ = some (.slice cA cn cq) := by simpa using HC6.out.cell 0
        have f1 : w6.cell? ⟨cb, 1, none⟩ = some (.int .i64 ta) := by simpa using HC6.out.cell 1
        have f2 : w6.cell? ⟨cb, 2, none⟩ = some (.int .i64 td) := by simpa using HC6.out.cell 2
        have x5 := fun o => cell_allocR d5 o
        have x0 := fun o => cell_allocR f0 o
        have x1 := fun o => cell_allocR f1 o
        have x2 := fun o => cell_allocR f2 o
        have hno : (Value.slice A5 n5 q5).ownBlock ≠ some cb := own_ne' HO6.out HC6.out (by decide)
        have HM5 := hid' (fun (W w9 : World) (h : Below w6.heap.size w6 W) (hm : Mod (fun k => (Value.slice A5 n5 q5).ownBlock = some k) W w9) => And.intro ((HS6.out.below h).mod hm (own_ne' HO6.out HS6.out (by decide))) ((HC6.out.below h).mod hm hno))
        have HRD6 := hid' ((Blk.new_ w6 9 #[.string s]).rd (xs := [.string s]) rfl)
        have HO6b := hid' (own_below HO6.out (bel_alloc (bel_refl w6) (.cells #[.string s] 9)))
        have hb6b : B ≤ (w6.alloc (.cells #[.string s] 9)).heap.size := by simp; omega
        clear hno
        go_region_law (first
          | (refine step_append_ex2 rfl (.tmp 105) (.tmp 107) 29 29 rfl (.slice A5 n5 q5) (.slice (some ⟨w6.heap.size, 0, none⟩) 1 1) rfl rfl _ (app_strW B (.slice A5 n5 q5) n5 (r.head.map sV) (.string s) rfl _ _ w6.heap.size (by exact HO6b.out) (by exact HRD6.out) (by omega) (by exact hb6b)) ?_; rintro v1 w7 hv7; obtain ⟨A7, q7, rfl, -, -, -⟩ := own_rd hv7.out.1; have HS7 := hid' (HM5.out _ w7 (by first | exact bel_alloc (bel_refl _) _ | exact bel_drew (bel_alloc (bel_refl _) _) | exact bel_drewN (bel_alloc (bel_refl _) _) _) hv7.out.2.1); have k0 := HS7.out.1.cell 0; have k1 := HS7.out.1.cell 1; have k2 := HS7.out.1.cell 2; have k5 := HS7.out.1.cell 5; have g0 := HS7.out.1.frozen 0; have g1 := HS7.out.1.frozen 1; have g2 := HS7.out.1.frozen 2; have g5 := HS7.out.1.frozen 5; have sh := HS7.out.1.shape; have l0 : w7.cell? ⟨cb, 0, none⟩ = some (.slice cA cn cq) := (by simpa using HS7.out.2.cell 0); have l1 : w7.cell? ⟨cb, 1, none⟩ = some (.int .i64 ta) := (by simpa using HS7.out.2.cell 1); have l2 : w7.cell? ⟨cb, 2, none⟩ = some (.int .i64 td) := (by simpa using HS7.out.2.cell 2)))
        all_goals
          clear k0 k1 k2 k5 g0 g1 g2 g5 sh l0 l1 l2 x5 x0 x1 x2 f0 f1 f2
          go_wp2
          go_ret
          have hbx : Below w6.heap.size w6 (w6.alloc (.cells #[.string s] 9)) := bel_alloc (bel_refl _) _
          have hm67 : Mod (fun k => (Value.slice A5 n5 q5).ownBlock = some k) w6 w7 := by
            first
              | exact (Mod.of_below hbx).then_ hv7.out.2.1 (fun _ _ h => h)
              | exact (Mod.of_below (bel_drew hbx)).then_ hv7.out.2.1 (fun _ _ h => h)
          have hm16 : Mod (fun k => (Value.slice A5 n5 q5).ownBlock = some k) _ w6 := ((Mod.of_below HBA.out).then_ hv.out.2.1 (fun _ _ h => h)).then_ (Mod.of_below HBA6.out) (fun _ _ h => h)
          have hszz := hm16.size
          have hx6 : w6.heap.size ≤ (w6.alloc (.cells #[.string s] 9)).heap.size := hbx.size
          have hat : (Value.slice A7 (n5 + 1) q7).ownBlock = (Value.slice A5 n5 q5).ownBlock ∨ ∃ b, (Value.slice A7 (n5 + 1) q7).ownBlock = some b ∧ w6.heap.size ≤ b := by
            rcases hv7.out.2.2 with h | ⟨b, h, hb⟩
            · exact .inl h
            · exact .inr ⟨b, h, Nat.le_trans hx6 hb⟩
          have hmall := (hm16.trans hm67)
          refine ⟨?_, ?_, ?_⟩
          · rw [HF.out]
            rcases HP.out with ⟨a1, a2⟩ | ⟨a1, l, a2, a3⟩
            · rw [a2]
              have a4 : ((bd : Int) == 0) = false := by rw [beq_eq_false_iff_ne]; omega
              first | rfl | (rw [a4]; rfl) | (simp [a1]; done)
            · rw [a2, a1]; rfl
          · intro hok
            rw [HF.out] at hok ⊢
            rcases HP.out with ⟨a1, a2⟩ | ⟨a1, l, a2, a3⟩
            · rw [a2] at hok; cases hok
            · rw [a2]
              exact rdr_head HS7.out.1 HN.out.2 HN.out.1 H3.out H4.out H5.out h6 h7 HO6.out (HP6.out l a3) hb4 hm16 hm67 hv7.out.1 (by rcases hat with h | ⟨b, h, hb⟩; exact .inl h; exact .inr ⟨b, h, by omega⟩)
          · refine ((((hmall.mono (T := fun k => B ≤ k) (fun k _ e => own_base' H5.out k e)).setCell (p := ⟨g, 5, none⟩) (fun _ => h7) _).setCell (p := ⟨g, 0, none⟩) (fun _ => h7) _).setCell (p := ⟨g, 1, none⟩) (fun _ => h7) _).setCell (p := ⟨g, 2, none⟩) (fun _ => h7) _
end Go.Proofs.YtockkjhciojgbaaGreatDoor
/- RepP -/
/- A text read as a script (package report: Parse), walked. No condition but the tables of Go's own. -/
namespace Go.Proofs.YtockkjhciojgbaaGreatDoor
set_option maxRecDepth 100000
set_option linter.unusedSimpArgs false
open Go.RowKit
set_option linter.unusedVariables false
set_option linter.unusedSimpArgs false

theorem reader_line (B g : Nat) (w0 : World) (hT0 : TabT w0) (hB0 : w0.heap.size = B) (r : RSt) (s : ByteArray) (w : World) (hw0 : Below w0.heap.size w0 w) (h : Rdr w B g r) (hs : s.size ≤ 10000) (hl : r.head.length ≤ 10000 ∧ r.logs.length ≤ 10000 ∧ r.chs.length ≤ 10000) (hz : ∀ x ∈ r.head, x.length ≤ 10000) :
    Calls Tryz.prog 35 #[.pointer (some ⟨g, 0, none⟩), .string s] w fun e w' => e = .returned (.bool (lineR r (bL s)).2) ∧ ((lineR r (bL s)).2 = true → Rdr w' B g (lineR r (bL s)).1) ∧ Mod (fun k => B ≤ k) w w' := by
  have hT := hT0.below hw0
  have hB : B ≤ w.heap.size := by have := hw0.size; omega
  by_cases c1 : isLog (bL s) = true ∧ r.part < 2 ∧ r.head ≠ []
  · exact (line_log B g r s w h hs hT hl.2.1 hB c1.1 c1.2.1 c1.2.2).mono fun e w' ⟨h1, h2, h3⟩ => ⟨h1, fun _ => h2, h3⟩
  · by_cases c3 : r.head ≠ []
    · cases hr : readP (bL s) with
      | none => exact line_rest B g w0 hT0 hB0 r s w hw0 h hs hT hl.1 hz hB c1 (.inl hr)
      | some c =>
        obtain ⟨b, n⟩ := c
        exact (line_cho B g r s b n w h hs hT hl.2.2 hB c1 hr c3).mono fun e w' ⟨h1, h2, h3⟩ => ⟨h1, fun _ => h2, h3⟩
    · exact line_rest B g w0 hT0 hB0 r s w hw0 h hs hT hl.1 hz hB c1 (.inr (Classical.not_not.1 c3))
theorem linesR_cons (r : RSt) (s : List UInt8) (l : List (List UInt8)) : linesR r (s :: l) = if (lineR r s).2 = true then (match linesR (lineR r s).1 l with | .inl x => .inl x | .inr k => .inr (k + 1)) else .inr 0 := rfl
theorem lines_app2 : ∀ {a b : List (List UInt8)} {r x : RSt}, linesR r a = .inl x → linesR r (a ++ b) = (match linesR x b with | .inl y => .inl y | .inr j => .inr (a.length + j))
  | [], b, r, x, h => by
    have : r = x := by simpa [linesR] using h
    subst this
    rw [List.nil_append]
    cases linesR r b <;> simp
  | s :: a, b, r, x, h => by
    rw [linesR_cons] at h
    rw [List.cons_append, linesR_cons]
    split at h
    · rename_i hl
      rw [if_pos hl]
      split at h
      · rename_i z hz
        have : z = x := by simpa using h
        subst this
        rw [lines_app2 hz]
        cases linesR z b with
        | inl y => rfl
        | inr j => simp only [List.length_cons]; congr 1; omega
      · cases h
    · cases h
theorem lines_step {L : List (List UInt8)} {k : Nat} {r : RSt} {s : List UInt8} (h : linesR r0 (L.take k) = .inl r) (hs : L[k]? = some s) :
    ((lineR r s).2 = true → linesR r0 (L.take (k + 1)) = .inl (lineR r s).1) ∧ ((lineR r s).2 = false → linesR r0 L = .inr k) := by
  have hkl : k < L.length := (List.getElem?_eq_some_iff.1 hs).1
  refine ⟨fun ht => ?_, fun hf => ?_⟩
  · rw [List.take_add_one, hs, Option.toList_some]
    exact lines_app h (lines_one (Prod.ext rfl ht))
  · have hL : L = L.take k ++ s :: L.drop (k + 1) := by
      conv => lhs; rw [← List.take_append_drop k L]
      rw [List.drop_eq_getElem_cons hkl]
      congr 2
      have := List.getElem?_eq_getElem hkl
      rw [this] at hs; exact Option.some.inj hs
    rw [hL, lines_app2 h]
    have h2 : linesR r (s :: L.drop (k + 1)) = .inr 0 := by
      unfold linesR
      rw [if_neg (by rw [hf]; decide)]
    rw [h2]
    simp [List.length_take]
    omega
theorem lines_bound {L : List (List UInt8)} {r : RSt} (h : linesR r0 L = .inl r) : r.head.length ≤ L.length ∧ r.logs.length ≤ L.length ∧ r.chs.length ≤ L.length ∧ ∀ x ∈ r.head, x ∈ L := by
  have h2 := (lines_ok r0_ok h).2.1
  have h3 : r.lines = L := by rw [h2]; rfl
  have h4 : r.lines.length = r.head.length + r.logs.length + r.chs.length := by unfold RSt.lines; simp [Nat.add_assoc]
  rw [h3] at h4
  refine ⟨by omega, by omega, by omega, fun x hx => ?_⟩
  rw [← h3]
  unfold RSt.lines
  exact List.mem_append_left _ (List.mem_append_left _ hx)
def zScript : Value := .agg #[.slice none 0 0, .int .i64 0, .int .i64 0, .slice none 0 0, .slice none 0 0]
/-- what a text is read as -/
def PScript (w' : World) (o : RSt ⊕ Nat) (e : Ending) : Prop :=
  match o with
  | .inl r => ∃ cA cq lA lq kA kq, e = .returned (.tuple #[.agg #[.slice cA r.cfg.1.length cq, .int .i64 r.cfg.2.1, .int .i64 r.cfg.2.2, .slice lA r.logs.length lq, .slice kA r.chs.length kq], .int .i64 0]) ∧ RdS w' cA 5 fRl r.cfg.1 ∧ Rd w' lA (r.logs.map sV) ∧ RdS w' kA 2 fCh r.chs
  | .inr k => e = .returned (.tuple #[zScript, .int .i64 (k : Int)])
set_option maxHeartbeats 16000000 in
theorem report_Parse (s : ByteArray) (w : World) (hs : s.size ≤ 1000000) (hn : (spl 10 (bL s)).length ≤ 10000) (hz : ∀ x ∈ spl 10 (bL s), x.length ≤ 10000) (hT : TabT w) :
    Calls Tryz.prog 11 #[.string s] w fun e w' => PScript w' (parseT (bL s)) e ∧ Below w.heap.size w w' := by
  have hb0 := bel_alloc (bel_refl w) (.cells #[.slice none 0 0, .int .i64 0, .int .i64 0, .slice none 0 0, .slice none 0 0] 32)
  have HK0 := hid' (Blk.new_ w 32 #[.slice none 0 0, .int .i64 0, .int .i64 0, .slice none 0 0, .slice none 0 0])
  obtain ⟨H, T, hsp, hcall⟩ := splitW 10 s ⟨#[10]⟩ (w.alloc (.cells #[.slice none 0 0, .int .i64 0, .int .i64 0, .slice none 0 0, .slice none 0 0] 32)) rfl hs (hT.below hb0).2.2.1
  have HC := hid' hcall
  have HL0 := hid' hb0
  have HT := hid' hT
  obtain ⟨PT, hPT⟩ : ∃ p, p = parseT (bL s) := ⟨_, rfl⟩
  have HPT := hid' (show PT = _ from hPT.trans (by unfold parseT; rw [← hsp]))
  rw [← hPT]
  have hTl : T.length + 1 ≤ 10000 := by rw [← hsp] at hn; simpa using hn
  have HZ := hid' (show ∀ x ∈ H :: T, x.size ≤ 10000 from fun x hx => by
    have := hz (bL x) (by rw [← hsp]; exact List.mem_map_of_mem (f := bL) hx)
    rwa [bL_len] at this)
  have HTZ := hid' (show (bL s).length ≤ 1000000 by rw [bL_len]; exact hs)
  obtain ⟨N, hN⟩ : ∃ N, N = T.length := ⟨_, rfl⟩
  rw [← hN] at HC hTl
  have HN := hid' hN
  have hXd : (bL H :: T.map bL).dropLast = ((H :: T).take N).map bL := by
    rw [← List.map_cons, ← List.map_dropLast, List.dropLast_eq_take, List.length_cons, Nat.add_sub_cancel, hN]
  rw [hXd] at HPT
  have hcut := cut_h (P := Tryz.prog) 29 9 1 Tryz.underlying29 (by kernel_rfl) (some ⟨w.heap.size + 1, 0, none⟩) (N + 1) (N + 1) N (by omega)
  clear hPT hsp hcall hn hz hT hb0 hs hN hXd
  go_enter Tryz.func11, Tryz.ntmps11
  go_wp2_with fail
  have hw0s : (w.alloc (.cells #[.slice none 0 0, .int .i64 0, .int .i64 0, .slice none 0 0, .slice none 0 0] 32)).heap.size = w.heap.size + 1 := by simp
  generalize w.alloc (.cells #[.slice none 0 0, .int .i64 0, .int .i64 0, .slice none 0 0, .slice none 0 0] 32) = w0 at *
  rw [hw0s] at HC
  refine HC.out.mono ?_
  rintro e w1 ⟨rfl, rfl⟩
  have hba := bel_alloc (bel_refl w0) (.cells ((H :: T).map Value.string).toArray 9)
  have HL1 := hid' (bel_then HL0.out hba)
  have HK1 := hid' (HK0.out.below hba)
  have hr1 := (Blk.new_ w0 9 ((H :: T).map Value.string).toArray).rd (xs := (H :: T).map Value.string) rfl
  rw [hw0s] at hr1
  have HR1 := hid' hr1
  have hw1s : (w0.alloc (.cells ((H :: T).map Value.string).toArray 9)).heap.size = w.heap.size + 2 := by simp; omega
  generalize w0.alloc (.cells ((H :: T).map Value.string).toArray 9) = w1 at *
  have HW1S := hid' hw1s
  clear hba hw0s hr1 HC HK0 HL0 hw1s
  have HT1 := hid' (HT.out.below HL1.out)
  have HR0 := hid' (show Rdr (w1.alloc (.cells #[.slice none 0 0, .int .i64 0, .int .i64 0, .slice none 0 0, .slice none 0 0, .slice none 0 0, .int .i64 0] 73)) w1.heap.size w1.heap.size r0 from
    ⟨.slice none 0 0, .slice none 0 0, .slice none 0 0, .slice none 0 0, Blk.new_ _ _ _, own_nil' _ _ _ _, own_nil' _ _ _ _, own_nil' _ _ _ _, own_nil' _ _ _ _, fun k hk => by simp [Value.ownBlock] at hk, Nat.le_refl _⟩)
  have HB2 := hid' (bel_alloc (bel_refl w1) (.cells #[.slice none 0 0, .int .i64 0, .int .i64 0, .slice none 0 0, .slice none 0 0, .slice none 0 0, .int .i64 0] 73))
  have hcut' := hcut
  go_wp2
  go_loopw [3, 6, 7, 16] (fun v3 v6 v7 v16 wr => ∃ (k : Nat) (r : RSt), k ≤ N ∧ v3 = .int .i64 0 ∧ v16 = .int .i64 k ∧ Hid (linesR r0 (((H :: T).take N).map bL |>.take k) = .inl r) ∧ Hid (Rdr wr w1.heap.size w1.heap.size r) ∧ Below w1.heap.size w1 wr) (fun _ _ _ v16 _ => N - (intOf v16).toNat)
  case atStart => exact ⟨0, r0, Nat.zero_le _, rfl, rfl, by rw [List.take_zero]; rfl, HR0.out, HB2.out⟩
  case round =>
    obtain ⟨k, r, hk, rfl, rfl, HL, HR, hb⟩ := hrel
    have HB := hid' hb
    by_cases hlt : k < N
    · have hkl : k < (H :: T).length := by have := HN.out; rw [List.length_cons]; omega
      obtain ⟨ad, x, hA, hx, hcx⟩ := Rd.at_ (HR1.out.below hb) hkl
      injection hA with hA
      subst hA
      rw [Addr.add_lit, Nat.zero_add] at hcx
      have hx2 := HZ.out x (mem_of_get hx)
      have hLk : (((H :: T).take N).map bL)[k]? = some (bL x) := by rw [List.getElem?_map, List.getElem?_take, if_pos hlt, hx]; rfl
      have hst := lines_step HL.out hLk
      have hbd := lines_bound HL.out
      have hLl : (((H :: T).take N).map bL |>.take k).length ≤ 10000 := by rw [List.length_take]; omega
      have hLine := reader_line w1.heap.size w1.heap.size w1 HT1.out rfl r x wr hb HR.out hx2 ⟨by omega, by omega, by omega⟩ (fun y hy => by
        have h1 := hbd.2.2.2 y hy
        obtain ⟨z, hz, rfl⟩ := List.mem_map.1 (List.mem_of_mem_take h1)
        rw [bL_len]
        exact HZ.out z (List.mem_of_mem_take hz))
      obtain ⟨LR, hLR⟩ : ∃ p, p = lineR r (bL x) := ⟨_, rfl⟩
      rw [← hLR] at hst hLine
      obtain ⟨r', ok⟩ := LR
      have HST := hid' hst
      have HLine := hid' hLine
      clear hb hst hbd hLl hLine hLR hx hLk hx2
      cases ok with
      | true =>
        go_wp2_with fail
        refine HLine.out.mono ?_
        rintro e w2 ⟨rfl, hR2, hM2⟩
        have HR2 := hid' (hR2 (by trivial))
        have HB2 := hid' (bel_mod HB.out hM2 (fun i hi h => by omega))
        clear hR2 hM2
        go_wp2
        go_roundw
        case rel => exact ⟨k + 1, r', by omega, rfl, by go_num, HST.out.1 (by trivial), HR2.out, HB2.out⟩
        case measure => (simp only [intOf]; omega)
      | false =>
        go_wp2_with fail
        refine HLine.out.mono ?_
        rintro e w2 ⟨rfl, hR2, hM2⟩
        have HB2 := hid' (bel_mod HB.out hM2 (fun i hi h => by omega))
        clear hR2 hM2
        have HK2 := hid' (HK1.out.below HB2.out)
        have k0 := HK2.out.cell 0
        have k1 := HK2.out.cell 1
        have k2 := HK2.out.cell 2
        have k3 := HK2.out.cell 3
        have k4 := HK2.out.cell 4
        have f0 := HK2.out.frozen 0
        have f1 := HK2.out.frozen 1
        have f2 := HK2.out.frozen 2
        have f3 := HK2.out.frozen 3
        have f4 := HK2.out.frozen 4
        have sh := HK2.out.shape
        have HPE := hid' (show PT = .inr (k + 1) from by rw [HPT.out, HST.out.2 (by trivial)])
        have HW2 := hid' (bel_then HL1.out HB2.out)
        go_wp2
        refine bodyPost_ret (v := .tuple #[zScript, .int .i64 ((k : Int) + 1)]) ?_ rfl ⟨?_, ?_⟩
        · rw [results_cell_tmp rfl]; unfold zScript; first | done | go_simp
        · rw [HPE.out]; rfl
        · repeat (first | exact HW2.out | refine bel_set ?_ (by exact Nat.le_refl _) _)
    · obtain rfl : k = N := by omega
      have hkl : k < (H :: T).length := by have := HN.out; rw [List.length_cons]; omega
      obtain ⟨ad, z, hA, hx, hcx⟩ := Rd.at_ (HR1.out.below hb) hkl
      injection hA with hA
      subst hA
      rw [Addr.add_lit, Nat.zero_add] at hcx
      have hlast : (bL H :: T.map bL).getLast? = some (bL z) := by
        rw [← List.map_cons, List.getLast?_map, List.getLast?_eq_getElem?, List.length_cons, Nat.add_sub_cancel, ← HN.out, hx]; rfl
      have HPE := hid' (show PT = if bL z ≠ [] ∨ r.head = [] then .inr (k + 1) else .inl r from by
        have h1 := HL.out
        rw [List.take_of_length_le (by rw [List.length_map, List.length_take]; omega)] at h1
        rw [HPT.out, h1, hlast]
        simp only [List.length_cons, List.length_map, ← HN.out, ne_eq, Option.some.injEq])
      obtain ⟨cv, lv, kv, hv, h1, h2, h3, h4, h5, h6, h7⟩ := HR.out
      obtain ⟨A5, q5, rfl, -, -, -⟩ := own_rd h5
      obtain ⟨A4, q4, rfl, -, -, hr4⟩ := own_rd h4
      obtain ⟨A3, q3, rfl, -, -, hr3⟩ := own_rd h3
      obtain ⟨A2, q2, rfl, -, -, hr2⟩ := own_rd h2
      have HOB := hid' (And.intro (fun k hk => own_base' h2 k hk) (And.intro (fun k hk => own_base' h3 k hk) (fun k hk => own_base' h4 k hk)))
      have HR4 := hid' (RdS.of_rd' (sz := 2) (f := fCh) (fun x => rfl) (by decide) hr4)
      have HR3 := hid' hr3
      have HR2 := hid' (RdS.of_rd' (sz := 5) (f := fRl) (fun x => rfl) (by decide) hr2)
      have HK2 := hid' (HK1.out.below hb)
      have HW2 := hid' (bel_then HL1.out hb)
      have d0 := h1.cell 0
      have d1 := h1.cell 1
      have d2 := h1.cell 2
      have d3 := h1.cell 3
      have d4 := h1.cell 4
      have d5 := h1.cell 5
      have k0 := HK2.out.cell 0
      have k1 := HK2.out.cell 1
      have k2 := HK2.out.cell 2
      have k3 := HK2.out.cell 3
      have k4 := HK2.out.cell 4
      have f0 := HK2.out.frozen 0
      have f1 := HK2.out.frozen 1
      have f2 := HK2.out.frozen 2
      have f3 := HK2.out.frozen 3
      have f4 := HK2.out.frozen 4
      have sh := HK2.out.shape
      have hne : w.heap.size ≠ w1.heap.size := by have := HW1S.out; omega
      have hne' : w1.heap.size ≠ w.heap.size := fun e => hne e.symm
      have hkI : (k : Int) < (k : Int) + 1 := by omega
      obtain ⟨n5, hn5⟩ : ∃ n, n = r.head.length := ⟨_, rfl⟩
      rw [← hn5] at d5
      have HN5 := hid' hn5
      have HZN := hid' (show ∀ z' : ByteArray, z'.toList.isEmpty = true ↔ bL z' = [] from fun z' => by rw [ByteArray.toList_eq]; unfold bL; simp)
      clear hb h1 h2 h3 h4 h5 hr2 hr3 hr4 hn5 hx hlast
      cases hze : z.toList.isEmpty with
      | false =>
        have HPF := hid' (show PT = .inr (k + 1) from by rw [HPE.out, if_pos (.inl (fun e => by rw [(HZN.out z).2 e] at hze; cases hze))])
        go_wp2
        refine bodyPost_ret (v := .tuple #[zScript, .int .i64 ((k : Int) + 1)]) ?_ rfl ⟨?_, ?_⟩
        · rw [results_cell_tmp rfl]; unfold zScript; first | done | go_simp
        · rw [HPF.out]; rfl
        · repeat (first | exact HW2.out | refine bel_set ?_ (by exact Nat.le_refl _) _)
      | true =>
        have hz0 := (HZN.out z).1 hze
        by_cases hn0 : n5 = 0
        · have HPF := hid' (show PT = .inr (k + 1) from by rw [HPE.out, if_pos (.inr (List.length_eq_zero_iff.1 (by rw [← HN5.out]; exact hn0)))])
          subst hn0
          clear hz0
          go_wp2
          refine bodyPost_ret (v := .tuple #[zScript, .int .i64 ((k : Int) + 1)]) ?_ rfl ⟨?_, ?_⟩
          · rw [results_cell_tmp rfl]; unfold zScript; first | done | go_simp
          · rw [HPF.out]; rfl
          · repeat (first | exact HW2.out | refine bel_set ?_ (by exact Nat.le_refl _) _)
        · have HPF := hid' (show PT = .inl r from by
            rw [HPE.out, if_neg]
            rw [not_or]
            exact ⟨fun e => e hz0, fun e => hn0 (by rw [HN5.out, e]; rfl)⟩)
          have hn0' : ((n5 : Int) == 0) = false := by rw [beq_eq_false_iff_ne]; omega
          clear hz0
          go_wp2
          refine bodyPost_ret (v := .tuple #[.agg #[.slice A2 r.cfg.1.length q2, .int .i64 r.cfg.2.1, .int .i64 r.cfg.2.2, .slice A3 r.logs.length q3, .slice A4 r.chs.length q4], .int .i64 0]) ?_ rfl ⟨?_, ?_⟩
          · rw [results_cell_tmp rfl]; first | done | go_simp
          · rw [HPF.out]
            have hms : Mod (fun j => j = w.heap.size) wr (((((wr.setCell ⟨w.heap.size, 0, none⟩ (.slice A2 r.cfg.1.length q2)).setCell ⟨w.heap.size, 1, none⟩ (.int .i64 r.cfg.2.1)).setCell ⟨w.heap.size, 2, none⟩ (.int .i64 r.cfg.2.2)).setCell ⟨w.heap.size, 3, none⟩ (.slice A3 r.logs.length q3)).setCell ⟨w.heap.size, 4, none⟩ (.slice A4 r.chs.length q4)) :=
              (((((Mod.refl (fun j => j = w.heap.size) wr).setCell (p := ⟨w.heap.size, 0, none⟩) (fun _ => rfl) _).setCell (p := ⟨w.heap.size, 1, none⟩) (fun _ => rfl) _).setCell (p := ⟨w.heap.size, 2, none⟩) (fun _ => rfl) _).setCell (p := ⟨w.heap.size, 3, none⟩) (fun _ => rfl) _).setCell (p := ⟨w.heap.size, 4, none⟩) (fun _ => rfl) _
            refine ⟨A2, q2, A3, q3, A4, q4, rfl, HR2.out.mod hms ?_, HR3.out.mod hms ?_, HR4.out.mod hms ?_⟩
            · intro ad e h
              subst e
              have h9 := HOB.out.1 ad.block rfl
              have := HW1S.out
              omega
            · intro ad e h
              subst e
              have h9 := HOB.out.2.1 ad.block rfl
              have := HW1S.out
              omega
            · intro ad e h
              subst e
              have h9 := HOB.out.2.2 ad.block rfl
              have := HW1S.out
              omega
          · repeat (first | exact HW2.out | refine bel_set ?_ (by exact Nat.le_refl _) _)
end Go.Proofs.YtockkjhciojgbaaGreatDoor
/- RepPlay -/
/- What comes out of a script, as a text (package report: Play), walked; a source that cannot be. What a choice does is the law's own hypothesis. -/
namespace Go.Proofs.YtockkjhciojgbaaGreatDoor
set_option maxRecDepth 100000
set_option linter.unusedSimpArgs false
open Go.RowKit
set_option linter.unusedVariables false
set_option linter.unusedSimpArgs false

/-! ### what a source tells of itself -/
theorem src_part {w : World} {B s : Nat} {o : Nat → Nat} {E : ESt} (h : IsSrc w B s o E) {i : Nat} {p : PSt} (hp : E.parts[i]? = some p) :
    ∃ r ad pc p1 p2 p3 p4 p5, Blk w s 86 #[.slice (some ad) E.parts.length pc, p1, p2, p3, p4, p5] ∧ i < E.parts.length ∧ E.parts.length ≤ 1000 ∧ IsPart w o i r p ∧ w.cell? (ad.add (i * 3)) = some (.pointer (some ⟨r.c, 0, none⟩)) ∧ w.cell? ⟨(ad.add (i * 3)).block, (ad.add (i * 3)).off + 2, none⟩ = some (.pointer (some ⟨r.st, 0, none⟩)) := by
  obtain ⟨⟨m, lo, hi, ga, ba, pv, ov, reps⟩, h⟩ := h
  unfold IsSrcL at h
  dsimp only at h
  obtain ⟨h1, h2, h3, h4, h5, h6, h7, h8, h9, h10⟩ := h
  have hiN : i < E.parts.length := (List.getElem?_eq_some_iff.1 hp).1
  obtain ⟨r, hr⟩ : ∃ r, reps[i]? = some r := ⟨_, List.getElem?_eq_getElem (by omega)⟩
  obtain ⟨ad, pc, hpv, c0, c1, c2⟩ := rep_at h2 hr
  rw [hpv] at h1
  exact ⟨r, ad, pc, _, _, _, _, _, h1, hiN, h10.1, h7 i r p hr hp, c0, c2⟩
theorem src_Status {w : World} {B s : Nat} {o : Nat → Nat} {E : ESt} (h : IsSrc w B s o E) {i : Nat} {p : PSt} (hp : E.parts[i]? = some p) :
    Calls Tryz.prog 23 #[.pointer (some ⟨s, 0, none⟩), .int .i64 (i : Int)] w fun e w' => e = .returned (.int .i64 p.is) ∧ w = w' := by
  obtain ⟨r, ad, pc, p1, p2, p3, p4, p5, h1, h2, h3, h4, h5, h6⟩ := src_part h hp
  exact source_Status s _ pc i r.st ad p.tmo p.u p.is p1 p2 p3 p4 p5 w h1 h2 h3 h6 h4.2.2.1
theorem src_Count {w : World} {B s : Nat} {o : Nat → Nat} {E : ESt} (h : IsSrc w B s o E) {i : Nat} {p : PSt} (hp : E.parts[i]? = some p) :
    Calls Tryz.prog 24 #[.pointer (some ⟨s, 0, none⟩), .int .i64 (i : Int)] w fun e w' => e = .returned (.int .i64 (p.cnt : Int)) ∧ w = w' := by
  obtain ⟨r, ad, pc, p1, p2, p3, p4, p5, h1, h2, h3, h4, h5, h6⟩ := src_part h hp
  exact source_Count s _ pc i r.c ad p.text p.at_ p.cnt p1 p2 p3 p4 p5 w h1 h2 h3 h5 h4.1
theorem src_Mark {w : World} {B s : Nat} {o : Nat → Nat} {E : ESt} (h : IsSrc w B s o E) (i : Int) :
    Calls Tryz.prog 25 #[.pointer (some ⟨s, 0, none⟩), .int .i64 i] w fun e w' => e = .returned (.int .i64 (treeKey E.marks i)) ∧ w = w' := by
  obtain ⟨L, h1, h2, h3, h4, h5⟩ := h
  exact source_Mark s L.lo L.hi L.m i E.marks E.iss E.now _ _ _ _ _ w h1 h4
theorem src_Now {w : World} {B s : Nat} {o : Nat → Nat} {E : ESt} (h : IsSrc w B s o E) :
    Calls Tryz.prog 26 #[.pointer (some ⟨s, 0, none⟩)] w fun e w' => e = .returned (.int .i64 E.now) ∧ w = w' := by
  obtain ⟨L, h1, h2, h3, h4, h5⟩ := h
  exact source_Now s L.lo L.hi L.m E.marks E.iss E.now _ _ _ _ _ w h1 h4
theorem src_Time {w : World} {B s : Nat} {o : Nat → Nat} {E : ESt} (h : IsSrc w B s o E) :
    Calls Tryz.prog 27 #[.pointer (some ⟨s, 0, none⟩)] w fun e w' => e = .returned (.int .i64 E.clk) ∧ w = w' := by
  obtain ⟨L, h1, h5⟩ := h
  exact source_Time s E.clk _ _ _ _ _ w h1
theorem src_Events {w : World} {B s : Nat} {o : Nat → Nat} {E : ESt} (h : IsSrc w B s o E) (hn : E.out.length ≤ 1000000) :
    Calls Tryz.prog 21 #[.pointer (some ⟨s, 0, none⟩)] w fun e w' => ∃ A c, e = .returned (.slice A E.out.length c) ∧ Rd w' A (E.out.map evV) ∧ Below w.heap.size w w' := by
  obtain ⟨L, h1, h2, h3, h4, h5, h6, h7⟩ := h
  have HO : w.ownsRow B 101 1 L.ov E.out.length (E.out.map evV) := h6
  refine (source_Events s B E.out.length _ _ _ _ L.ov _ E.out w h1 HO hn).mono ?_
  rintro e w' ⟨v, rfl, hown, hb⟩
  obtain ⟨A, c, rfl, -, -, hr⟩ := own_rd hown
  exact ⟨A, c, rfl, hr, hb⟩
/-! ### a source that cannot be -/
set_option maxHeartbeats 4000000 in
theorem source_NewErr (A AL : Option Addr) (cp cl n m : Nat) (t d : Int) (rl : List Rl) (w : World) (hr : RdS w A 5 fRl rl) (hrl : rl.length = n) (hn : n ≤ 100000) (hm : m ≤ 100000) (hc : cfgC rl t d ≠ 0 ∨ n ≠ m) :
    Calls Tryz.prog 18 #[.agg #[.slice A n cp, .int .i64 t, .int .i64 d], .slice AL m cl] w fun e w' => e = .returned (.tuple #[.pointer none, .int .i64 (if cfgC rl t d ≠ 0 then cfgC rl t d else 6)]) ∧ Below w.heap.size w w' := by
  have HK := hid' (Blk.new_ w 27 #[.slice A n cp, .int .i64 t, .int .i64 d])
  have hba := bel_alloc (bel_refl w) (.cells #[.slice A n cp, .int .i64 t, .int .i64 d] 27)
  have HL0 := hid' hba
  have HCK := hid' (config_Check A cp rl t d _ (hr.below hba) (by unfold maxLen; omega))
  rw [hrl] at HCK
  obtain ⟨e0, he0⟩ : ∃ e, e = cfgC rl t d := ⟨_, rfl⟩
  rw [← he0] at HCK hc ⊢
  clear hr hrl he0
  by_cases h0 : e0 ≠ 0
  · rw [if_pos h0]
    have h0' : (e0 != 0) = true := by simpa using h0
    clear hc h0
    go_enter Tryz.func18, Tryz.ntmps18
    go_wp2_with fail
    generalize w.alloc (.cells #[.slice A n cp, .int .i64 t, .int .i64 d] 27) = w0 at *
    clear hba
    refine HCK.out.mono ?_
    rintro e w1 ⟨rfl, hB1⟩
    have HL1 := hid' (bel_then HL0.out hB1)
    clear hB1
    go_wp2
    go_ret2
    exact ⟨rfl, HL1.out⟩
  · rw [if_neg h0]
    have h00 : e0 = 0 := by omega
    subst h00
    have hnm : ((m : Int) != (n : Int)) = true := by rw [bne_iff_ne]; rcases hc with h | h; exact absurd h h0; omega
    clear hc h0
    go_enter Tryz.func18, Tryz.ntmps18
    go_wp2_with fail
    generalize w.alloc (.cells #[.slice A n cp, .int .i64 t, .int .i64 d] 27) = w0 at *
    clear hba
    refine HCK.out.mono ?_
    rintro e w1 ⟨rfl, hB1⟩
    have HK1 := hid' (HK.out.below hB1)
    have HL1 := hid' (bel_then HL0.out hB1)
    have c0 : w1.cell? ⟨w.heap.size, 0, none⟩ = some (.slice A n cp) := by simpa using HK1.out.cell 0
    clear hB1
    go_wp2
    go_ret2
    exact ⟨rfl, HL1.out⟩
/-! ### what is told -/
def wError : List UInt8 := [101, 114, 114, 111, 114]
def wPart : List UInt8 := [112, 97, 114, 116]
def wEnd : List UInt8 := [101, 110, 100]
def wLine : List UInt8 := [108, 105, 110, 101]
set_option maxHeartbeats 4000000 in
theorem report_PlayErr (A AL AC : Option Addr) (cp cl cc n m k : Nat) (t d : Int) (rl : List Rl) (w : World) (hr : RdS w A 5 fRl rl) (hrl : rl.length = n) (hn : n ≤ 100000) (hm : m ≤ 100000) (hc : cfgC rl t d ≠ 0 ∨ n ≠ m) (hT : TabT w) (hI : I64 (cfgC rl t d)) :
    Calls Tryz.prog 7 #[.agg #[.slice A n cp, .int .i64 t, .int .i64 d, .slice AL m cl, .slice AC k cc]] w fun e w' => e = .returned (.string (strOf (lnL wError [if cfgC rl t d ≠ 0 then cfgC rl t d else 6]))) ∧ Below w.heap.size w w' := by
  have hba := bel_alloc (bel_refl w) (.cells #[.slice A n cp, .int .i64 t, .int .i64 d, .slice AL m cl, .slice AC k cc] 32)
  have HB0 := hid' hba
  have HNE := hid' (source_NewErr A AL cp cl n m t d rl _ (hr.below hba) hrl hn hm hc)
  obtain ⟨e0, he0⟩ : ∃ e, e = (if cfgC rl t d ≠ 0 then cfgC rl t d else 6) := ⟨_, rfl⟩
  have he1 : (e0 != 0) = true := by rw [he0, bne_iff_ne]; split <;> simp_all
  have heI : I64 e0 := by rw [he0]; split; exact hI; unfold I64; decide
  rw [← he0] at HNE ⊢
  have HT := hid' hT
  clear hr hrl hc hI he0 hT
  go_enter Tryz.func7, Tryz.ntmps7
  go_wp2_with fail
  generalize w.alloc (.cells #[.slice A n cp, .int .i64 t, .int .i64 d, .slice AL m cl, .slice AC k cc] 32) = w0 at *
  clear hba
  refine HNE.out.mono ?_
  rintro e w1 ⟨rfl, hB1⟩
  have HB1 := hid' (bel_then HB0.out hB1)
  clear hB1
  have hba := bel_alloc (bel_refl w1) (.cells #[.int .i64 e0] 3)
  have HB2 := hid' (bel_then HB1.out hba)
  have HN := hid' (report_number ⟨#[101, 114, 114, 111, 114]⟩ (some ⟨w1.heap.size, 0, none⟩) 1 [e0] _ ((Blk.new_ w1 3 #[.int .i64 e0]).rd rfl) (by intro n hn; rw [List.mem_singleton] at hn; subst hn; exact heI) (by simp) (by decide) (HT.out.below HB2.out).1)
  clear hba
  go_wp2_with fail
  refine HN.out.mono ?_
  rintro e w2 ⟨rfl, hB3⟩
  have HB3 := hid' (bel_then HB2.out hB3)
  clear hB3
  go_wp2
  go_ret
  exact ⟨rfl, HB3.out⟩
/-- a partition's row, and all that is told -/
def partL (E : ESt) (i : Nat) : List UInt8 := match E.parts[i]? with
  | some p => lnL wPart [(i : Int), p.is, (p.cnt : Int), treeKey E.marks (i : Int)]
  | none => []
def partsL (E : ESt) (n : Nat) : List UInt8 := (List.range n).flatMap (partL E)
theorem partsL_succ (E : ESt) (n : Nat) : partsL E (n + 1) = partsL E n ++ partL E n := by unfold partsL; rw [List.range_succ, List.flatMap_append]; simp
def playL (E : ESt) (n : Nat) : List UInt8 := textE E.out ++ partsL E n ++ lnL wEnd [E.now, E.clk, (lateN (elL E.out) : Int)]
/-- what can be told of a source -/
def PInv (E : ESt) (n : Nat) : Prop := E.parts.length = n ∧ E.out.length ≤ 1000 ∧ (∀ e ∈ E.out, evI e ∧ evZ e) ∧ (∀ p ∈ E.parts, I64 p.is ∧ p.cnt ≤ 200000) ∧ I64 E.now ∧ I64 E.clk ∧ ∀ i, I64 (treeKey E.marks i)
theorem lnL_len (w : List UInt8) {l : List Int} (h : ∀ n ∈ l, I64 n) : (lnL w l).length ≤ w.length + 22 * l.length + 1 := by
  unfold lnL
  have := wordsL_len h
  simp only [List.length_append, List.length_singleton]
  omega
theorem partsL_len {E : ESt} {n : Nat} (h : PInv E n) (hn : n ≤ 100000) : ∀ k, (partsL E k).length ≤ 100 * k
  | 0 => by unfold partsL; simp
  | k + 1 => by
    rw [partsL_succ, List.length_append]
    have ih := partsL_len h hn k
    have : (partL E k).length ≤ 100 := by
      unfold partL
      split
      · rename_i p hp
        have hpm := h.2.2.2.1 p (List.mem_of_getElem? hp)
        have hk : k < 1000000 ∨ 1000000 ≤ k := by omega
        by_cases hk : k ≤ 9223372036854775807
        · have := lnL_len wPart (l := [(k : Int), p.is, (p.cnt : Int), treeKey E.marks (k : Int)]) (by
            intro x hx
            simp only [List.mem_cons, List.not_mem_nil, or_false] at hx
            rcases hx with rfl | rfl | rfl | rfl
            · unfold I64; omega
            · exact hpm.1
            · have := hpm.2; unfold I64; omega
            · exact h.2.2.2.2.2.2 _)
          simp at this
          have hw : wPart.length = 4 := rfl
          omega
        · have : k < E.parts.length := (List.getElem?_eq_some_iff.1 hp).1
          exfalso
          rw [h.1] at this
          exact hk (by omega)
      · simp
    omega
set_option maxHeartbeats 16000000 in
theorem report_PlayOk (doE : ESt → Bool × Int → ESt) (Inv : ESt → Prop) (A AL AC : Option Addr) (cp cl cc n : Nat) (t d : Int) (rl : List Rl) (lg : List ByteArray) (chs : List (Bool × Int)) (w : World) (hr : RdS w A 5 fRl rl) (hlog : Rd w AL (lg.map .string)) (hch : RdS w AC 2 fCh chs) (hcl : chs.length ≤ 100000)
    (hc : cfgC rl t d = 0) (hrl : rl.length = n) (hlg : lg.length = n) (hI : ∀ r ∈ rl, I64 r.2.1) (htI : I64 t) (hdI : I64 d) (hn : n < 1000) (hz : ∀ x ∈ lg, x.size ≤ 200000) (hT : TabT w)
    (hdo : ∀ c ∈ chs, ∀ (E : ESt) (W : World) (B s : Nat) (o : Nat → Nat), Inv E → IsSrc W B s o E → TabT W → Calls Tryz.prog 20 #[.pointer (some ⟨s, 0, none⟩), .agg #[.bool c.1, .int .i64 c.2]] W fun e W' => (∃ v, e = .returned v) ∧ Step W W' B s o (doE E c))
    (hinv : ∀ c ∈ chs, ∀ E, Inv E → Inv (doE E c)) (h0 : Inv (beginE rl lg t d n)) (hfin : ∀ E, Inv E → PInv E n) :
    Calls Tryz.prog 7 #[.agg #[.slice A n cp, .int .i64 t, .int .i64 d, .slice AL n cl, .slice AC chs.length cc]] w fun e w' => e = .returned (.string (strOf (playL (chs.foldl doE (beginE rl lg t d n)) n))) ∧ Below w.heap.size w w' := by
  have hba := bel_alloc (bel_refl w) (.cells #[.slice A n cp, .int .i64 t, .int .i64 d, .slice AL n cl, .slice AC chs.length cc] 32)
  have HB0 := hid' hba
  have HK0 := hid' (Blk.new_ w 32 #[.slice A n cp, .int .i64 t, .int .i64 d, .slice AL n cl, .slice AC chs.length cc])
  have HNW := hid' (source_New A AL cp cl t d n rl lg _ (hr.below hba) (hlog.below hba) hc hrl hlg hI htI hdI hn hz)
  obtain ⟨E0, hE0⟩ : ∃ E, E = beginE rl lg t d n := ⟨_, rfl⟩
  rw [← hE0] at HNW h0 ⊢
  have HT := hid' hT
  have HCH := hid' hch
  have HDO := hid' hdo
  have HIV := hid' hinv
  have HFI := hid' hfin
  have H0 := hid' h0
  obtain ⟨M, hM⟩ : ∃ M, M = chs.length := ⟨_, rfl⟩
  rw [← hM] at HB0 HK0 HNW hcl ⊢
  have HM := hid' hM
  clear hr hlog hch hc hrl hlg hI htI hdI hz hT hdo hinv h0 hfin hE0 hM hba
  go_enter Tryz.func7, Tryz.ntmps7
  go_wp2_with fail
  have hw0s : (w.alloc (.cells #[.slice A n cp, .int .i64 t, .int .i64 d, .slice AL n cl, .slice AC M cc] 32)).heap.size = w.heap.size + 1 := by simp
  generalize w.alloc (.cells #[.slice A n cp, .int .i64 t, .int .i64 d, .slice AL n cl, .slice AC M cc] 32) = w0 at *
  have HW0 := hid' hw0s
  clear hw0s
  refine HNW.out.mono ?_
  rintro e w1 ⟨s, o1, rfl, hS1, hB1⟩
  have HK1 := hid' (HK0.out.below hB1)
  have HB1 := hid' (bel_then HB0.out hB1)
  have HS1 := hid' hS1
  have c2 : w1.cell? ⟨w.heap.size, 4, none⟩ = some (.slice AC M cc) := by simpa using HK1.out.cell 4
  clear hS1
  go_wp2
  go_loopw [6, 26] (fun v6 v26 wr => ∃ k : Nat, k ≤ M ∧ v26 = .int .i64 k ∧ Hid (∃ o, IsSrc wr w0.heap.size s o ((chs.take k).foldl doE E0) ∧ Inv ((chs.take k).foldl doE E0)) ∧ Hid (Below w0.heap.size w0 wr)) (fun _ v26 _ => M - (intOf v26).toNat)
  case atStart => exact ⟨0, Nat.zero_le _, rfl, ⟨o1, HS1.out, H0.out⟩, hB1⟩
  case round =>
    obtain ⟨k, hk, rfl, HJ, HL⟩ := hrel
    by_cases hlt : k < M
    · have hlt2 : k < chs.length := by rw [← HM.out]; exact hlt
      obtain ⟨ad, cb, cn, hA, hx, d0, d1⟩ := RdS.at2 (HCH.out.below (bel_then HB0.out HL.out)) hlt2
      subst hA
      obtain ⟨o, hS, hJ⟩ := HJ.out
      have hmem := List.mem_of_getElem? hx
      have HD := hid' (HDO.out _ hmem _ (wr.alloc (.cells #[.bool cb, .int .i64 cn] 52)) _ _ _ hJ (hS.below (bel_alloc (bel_refl _) _)) (HT.out.below (bel_then HB0.out (bel_then HL.out (bel_alloc (bel_refl _) _)))))
      have HNX := hid' (show (chs.take (k + 1)).foldl doE E0 = doE ((chs.take k).foldl doE E0) (cb, cn) from by rw [List.take_add_one, hx, Option.toList_some, List.foldl_append]; rfl)
      have HIN := hid' (HIV.out _ hmem _ hJ)
      have HSU := hid' ((src_own hS).2.2.2.2.2.2.1)
      clear hx hS hJ hmem hlt2 c2
      go_wp2_with fail
      refine HD.out.mono ?_
      rintro e w3 ⟨⟨v, rfl⟩, o3, g1, g2, g3⟩
      have HG1 := hid' g1
      have HL3 := hid' (show Below w0.heap.size w0 w3 from bel_mod (bel_then HL.out (bel_alloc (bel_refl _) _)) g2 (fun i hi h => by have := HSU.out i h; omega))
      clear g1 g2 g3
      go_wp2
      go_roundw
      case rel => exact ⟨k + 1, by omega, by go_num, by rw [HNX.out]; exact ⟨o3, HG1.out, HIN.out⟩, HL3.out⟩
      case measure => (simp only [intOf]; omega)
    · obtain rfl : k = M := by omega
      obtain ⟨o, hS, hJ⟩ := HJ.out
      rw [HM.out, List.take_length] at hS hJ
      have hP := HFI.out _ hJ
      obtain ⟨E, hE⟩ : ∃ E, E = chs.foldl doE E0 := ⟨_, rfl⟩
      rw [← hE] at hS hP
      have HE := hid' hE
      have HS := hid' hS
      have HPI := hid' hP
      have HEV := hid' (src_Events hS (by have := hP.2.1; omega))
      have HTX := hid' (textE_len hP.2.2.1 hP.2.1)
      have HPL := hid' (partsL_len hP (by omega))
      have HLE := hid' hP.2.1
      have hP1 := hP.1
      clear hS hJ hP hE c2
      go_wp2_with fail
      refine HEV.out.mono ?_
      rintro e w2 ⟨A2, c2, rfl, hr2, hB2⟩
      have HR2 := hid' hr2
      have HW2 := hid' (show Below w.heap.size w w2 from bel_then (bel_then HB0.out HL.out) hB2)
      have HL2 := hid' (bel_then HL.out hB2)
      have HS2 := hid' (HS.out.below hB2)
      have hT2 := HT.out.below HW2.out
      have HTE := hid' (event_Text A2 c2 E.out w2 hr2 HPI.out.2.1 HPI.out.2.2.1 hT2.1 hT2.2.2.2.1 hT2.2.2.2.2)
      clear hr2 hB2 hT2
      go_wp2_with fail
      refine HTE.out.mono ?_
      rintro e w3 ⟨rfl, hB3⟩
      have HR3 := hid' (HR2.out.below hB3)
      have HW3 := hid' (bel_then HW2.out hB3)
      have HS3 := hid' (HS2.out.below hB3)
      have HK3 := hid' (HK0.out.below (bel_then HL2.out hB3))
      have d3 : w3.cell? ⟨w.heap.size, 3, none⟩ = some (.slice AL n cl) := by simpa using HK3.out.cell 3
      obtain ⟨TX, hTX⟩ : ∃ x, x = textE E.out := ⟨_, rfl⟩
      have htl : TX.length ≤ 13001000 := by have h1 := HTX.out; have h2 := HLE.out; rw [hTX]; omega
      have HTXE := hid' hTX
      rw [← hTX]
      have HT3 := hid' (HT.out.below HW3.out)
      clear hB3 hTX
      go_wp2
      go_loopw [8, 9, 41] (fun v8 v9 v41 wq => ∃ i : Nat, i ≤ n ∧ v41 = .int .i64 i ∧ v8 = .string (strOf (TX ++ partsL E i)) ∧ Below w3.heap.size w3 wq) (fun _ _ v41 _ => n - (intOf v41).toNat)
      case atStart => exact ⟨0, Nat.zero_le _, rfl, by unfold partsL; simp, bel_refl _⟩
      case round =>
        obtain ⟨i, hi, rfl, rfl, hbq⟩ := hrel
        have HBQ := hid' hbq
        have HTQ := hid' (HT3.out.below hbq)
        have HSQ := hid' (HS3.out.below hbq)
        have hpl := HPL.out i
        obtain ⟨S1, hS1⟩ : ∃ x, x = strOf (TX ++ partsL E i) := ⟨_, rfl⟩
        have hsz : S1.size ≤ 14000000 := by
          rw [hS1]
          show (TX ++ partsL E i).length ≤ _
          rw [List.length_append]; omega
        rw [← hS1]
        have HS1E := hid' hS1
        clear hbq hpl hS1 d3
        by_cases hin : i < n
        · obtain ⟨p, hp⟩ : ∃ p, E.parts[i]? = some p := ⟨_, List.getElem?_eq_getElem (by rw [hP1]; exact hin)⟩
          have hpm := HPI.out.2.2.2.1 p (List.mem_of_getElem? hp)
          have HC1 := hid' (src_Status HSQ.out hp)
          have HC2 := hid' (src_Count HSQ.out hp)
          have HC3 := hid' (src_Mark HSQ.out (i : Int))
          have hmI := HPI.out.2.2.2.2.2.2 (i : Int)
          have HNX := hid' (show partsL E (i + 1) = partsL E i ++ lnL wPart [(i : Int), p.is, (p.cnt : Int), treeKey E.marks (i : Int)] from by rw [partsL_succ]; congr 1; unfold partL; rw [hp])
          have hll : ∀ x ∈ [(i : Int), p.is, (p.cnt : Int), treeKey E.marks (i : Int)], I64 x := by
            intro x hx
            simp only [List.mem_cons, List.not_mem_nil, or_false] at hx
            rcases hx with rfl | rfl | rfl | rfl
            · unfold I64; omega
            · exact hpm.1
            · have := hpm.2; unfold I64; omega
            · exact hmI
          have hnl := lnL_len wPart hll
          simp only [List.length_cons, List.length_nil] at hnl
          have hw4 : wPart.length = 4 := rfl
          generalize treeKey E.marks (i : Int) = mk at *
          generalize p.is = pis at *
          generalize p.cnt = pcnt at *
          have hba := bel_alloc (bel_refl wr) (.cells #[.int .i64 (i : Int), .int .i64 pis, .int .i64 (pcnt : Int), .int .i64 mk] 3)
          have HNU := hid' (report_number ⟨#[112, 97, 114, 116]⟩ (some ⟨wr.heap.size, 0, none⟩) 4 [(i : Int), pis, (pcnt : Int), mk] _ ((Blk.new_ wr 3 #[.int .i64 (i : Int), .int .i64 pis, .int .i64 (pcnt : Int), .int .i64 mk]).rd rfl) hll (by simp) (by decide) (HTQ.out.below hba).1)
          have HBA := hid' (bel_then HBQ.out hba)
          rw [show bL ⟨#[112, 97, 114, 116]⟩ = wPart from rfl] at HNU
          obtain ⟨y, hy⟩ : ∃ y, y = strOf (lnL wPart [(i : Int), pis, (pcnt : Int), mk]) := ⟨_, rfl⟩
          have hys : y.size ≤ 1000 := by rw [hy]; show (lnL wPart _).length ≤ _; omega
          rw [← hy] at HNU
          have HY := hid' hy
          have hsum : S1.size + y.size ≤ 9223372036854775807 := by omega
          clear hp hpm hmI hll hnl hw4 hba hy hP1
          go_wp2_with fail
          refine HC1.out.mono ?_
          rintro e wa ⟨rfl, rfl⟩
          go_wp2_with fail
          refine HC2.out.mono ?_
          rintro e wa ⟨rfl, rfl⟩
          go_wp2_with fail
          refine HC3.out.mono ?_
          rintro e wa ⟨rfl, rfl⟩
          go_wp2_with fail
          refine HNU.out.mono ?_
          rintro e wb ⟨rfl, hBb⟩
          have HBB := hid' (bel_then HBA.out hBb)
          clear hBb
          go_wp2
          go_roundw
          case rel => exact ⟨i + 1, by omega, by go_num, by rw [HNX.out, HS1E.out, HY.out, strN_app, List.append_assoc], HBB.out⟩
          case measure => (simp only [intOf]; omega)
        · obtain rfl : i = n := by omega
          have HC1 := hid' (src_Now HSQ.out)
          have HC2 := hid' (src_Time HSQ.out)
          have HC3 := hid' (judge_Lates A2 c2 E.out wr (HR3.out.below HBQ.out) (by have := HLE.out; omega))
          have hlt2 : lateN (elL E.out) ≤ 1000 := by
            have h1 := lateN_le (elL E.out) (elL E.out).length
            rw [List.take_length] at h1
            have h2 := elL_len E.out
            have h3 := HLE.out
            omega
          have HFIN := hid' (show playL (chs.foldl doE E0) i = TX ++ partsL E i ++ lnL wEnd [E.now, E.clk, (lateN (elL E.out) : Int)] from by rw [← HE.out]; unfold playL; rw [← HTXE.out])
          have hnI := HPI.out.2.2.2.2.1
          have hcI := HPI.out.2.2.2.2.2.1
          have hll : ∀ x ∈ [E.now, E.clk, (lateN (elL E.out) : Int)], I64 x := by
            intro x hx
            simp only [List.mem_cons, List.not_mem_nil, or_false] at hx
            rcases hx with rfl | rfl | rfl
            · exact hnI
            · exact hcI
            · unfold I64; omega
          have hnl := lnL_len wEnd hll
          simp only [List.length_cons, List.length_nil] at hnl
          have hw4 : wEnd.length = 3 := rfl
          generalize lateN (elL E.out) = lt at *
          generalize E.now = now at *
          generalize E.clk = clk at *
          obtain ⟨y, hy⟩ : ∃ y, y = strOf (lnL wEnd [now, clk, (lt : Int)]) := ⟨_, rfl⟩
          have hys : y.size ≤ 1000 := by rw [hy]; show (lnL wEnd _).length ≤ _; omega
          have HY := hid' hy
          have hsum : S1.size + y.size ≤ 9223372036854775807 := by omega
          clear hnI hcI hnl hw4 hP1 hlt2
          go_wp2_with fail
          refine HC1.out.mono ?_
          rintro e wa ⟨rfl, rfl⟩
          go_wp2_with fail
          refine HC2.out.mono ?_
          rintro e wa ⟨rfl, rfl⟩
          go_wp2_with fail
          refine HC3.out.mono ?_
          rintro e wa ⟨rfl, hBa⟩
          have hba := bel_alloc (bel_refl wa) (.cells #[.int .i64 now, .int .i64 clk, .int .i64 (lt : Int)] 3)
          have HBA := hid' (bel_then HBQ.out (bel_then hBa hba))
          have HNU := hid' (report_number ⟨#[101, 110, 100]⟩ (some ⟨wa.heap.size, 0, none⟩) 3 [now, clk, (lt : Int)] _ ((Blk.new_ wa 3 #[.int .i64 now, .int .i64 clk, .int .i64 (lt : Int)]).rd rfl) hll (by simp) (by decide) (HT3.out.below HBA.out).1)
          rw [show bL ⟨#[101, 110, 100]⟩ = wEnd from rfl, ← hy] at HNU
          clear hBa hba hy hll
          go_wp2_with fail
          refine HNU.out.mono ?_
          rintro e wb ⟨rfl, hBb⟩
          have HBB := hid' (bel_then (bel_then HW3.out HBA.out) hBb)
          clear hBb
          go_wp2
          go_ret
          exact ⟨by rw [HFIN.out, ← strN_app, ← HS1E.out, ← HY.out]; rfl, HBB.out⟩
end Go.Proofs.YtockkjhciojgbaaGreatDoor
/- RepRun -/
/- A report of a text (package report: Run), walked. No condition but the tables of Go's own. -/
namespace Go.Proofs.YtockkjhciojgbaaGreatDoor
set_option maxRecDepth 100000
set_option linter.unusedSimpArgs false
open Go.RowKit
set_option linter.unusedVariables false
set_option linter.unusedSimpArgs false

set_option maxHeartbeats 4000000 in
theorem report_RunBad (s : ByteArray) (w : World) (k : Nat) (hs : s.size ≤ 1000000) (hn : (spl 10 (bL s)).length ≤ 10000) (hz : ∀ x ∈ spl 10 (bL s), x.length ≤ 10000) (hT : TabT w) (hk : 0 < k ∧ k ≤ 1000000) (hp : parseT (bL s) = .inr k) :
    Calls Tryz.prog 15 #[.string s] w fun e w' => e = .returned (.string (strOf (lnL wLine [(k : Int)]))) ∧ Below w.heap.size w w' := by
  have HPA := hid' (report_Parse s w hs hn hz hT)
  rw [hp] at HPA
  have hkI : (0 : Int) < (k : Int) := by omega
  have hk1 := hk.2
  have HT := hid' hT
  clear hs hn hz hT hp hk
  go_enter Tryz.func15, Tryz.ntmps15
  go_wp2_with fail
  refine HPA.out.mono ?_
  rintro e w1 ⟨hP, hB⟩
  have hP2 : e = .returned (.tuple #[.agg #[.slice none 0 0, .int .i64 0, .int .i64 0, .slice none 0 0, .slice none 0 0], .int .i64 (k : Int)]) := hP
  subst hP2
  have hba := bel_alloc hB (.cells #[.slice none 0 0, .int .i64 0, .int .i64 0, .slice none 0 0, .slice none 0 0] 32)
  have HB1 := hid' hba
  have hw1s : (w1.alloc (.cells #[.slice none 0 0, .int .i64 0, .int .i64 0, .slice none 0 0, .slice none 0 0] 32)).heap.size = w1.heap.size + 1 := by simp
  have HNU := hid' (report_number ⟨#[108, 105, 110, 101]⟩ (some ⟨w1.heap.size + 1, 0, none⟩) 1 [(k : Int)] ((w1.alloc (.cells #[.slice none 0 0, .int .i64 0, .int .i64 0, .slice none 0 0, .slice none 0 0] 32)).alloc (.cells #[.int .i64 (k : Int)] 3)) (by
    have h := (Blk.new_ (w1.alloc (.cells #[.slice none 0 0, .int .i64 0, .int .i64 0, .slice none 0 0, .slice none 0 0] 32)) 3 #[.int .i64 (k : Int)]).rd (xs := [Value.int .i64 (k : Int)]) rfl
    rw [hw1s] at h; exact h) (by intro n hn; rw [List.mem_singleton] at hn; subst hn; unfold I64; omega) (by simp) (by decide) (HT.out.below (bel_alloc hba _)).1)
  rw [show bL ⟨#[108, 105, 110, 101]⟩ = wLine from rfl] at HNU
  clear hP hB hba hw1s
  go_wp2_with fail
  refine HNU.out.mono ?_
  rintro e w2 ⟨rfl, hB2⟩
  have HB2 := hid' (bel_then (bel_alloc HB1.out _) hB2)
  clear hB2
  go_wp2
  go_ret
  exact ⟨rfl, HB2.out⟩
set_option maxHeartbeats 4000000 in
theorem report_RunOk (s : ByteArray) (w : World) (r : RSt) (R : List UInt8) (hs : s.size ≤ 1000000) (hn : (spl 10 (bL s)).length ≤ 10000) (hz : ∀ x ∈ spl 10 (bL s), x.length ≤ 10000) (hT : TabT w) (hp : parseT (bL s) = .inl r)
    (HPlay : ∀ (cA : Option Addr) (cq : Nat) (lA : Option Addr) (lq : Nat) (kA : Option Addr) (kq : Nat) (W : World), Below w.heap.size w W → RdS W cA 5 fRl r.cfg.1 → Rd W lA (r.logs.map sV) → RdS W kA 2 fCh r.chs →
      Calls Tryz.prog 7 #[.agg #[.slice cA r.cfg.1.length cq, .int .i64 r.cfg.2.1, .int .i64 r.cfg.2.2, .slice lA r.logs.length lq, .slice kA r.chs.length kq]] W fun e w' => e = .returned (.string (strOf R)) ∧ Below W.heap.size W w') :
    Calls Tryz.prog 15 #[.string s] w fun e w' => e = .returned (.string (strOf R)) ∧ Below w.heap.size w w' := by
  have HPA := hid' (report_Parse s w hs hn hz hT)
  rw [hp] at HPA
  have HP := hid' HPlay
  clear hs hn hz hT hp HPlay
  go_enter Tryz.func15, Tryz.ntmps15
  go_wp2_with fail
  refine HPA.out.mono ?_
  rintro e w1 ⟨hP, hB⟩
  obtain ⟨cA, cq, lA, lq, kA, kq, rfl, h1, h2, h3⟩ := hP
  have hba := bel_alloc (bel_refl w1) (.cells #[.slice cA r.cfg.1.length cq, .int .i64 r.cfg.2.1, .int .i64 r.cfg.2.2, .slice lA r.logs.length lq, .slice kA r.chs.length kq] 32)
  have HPL := hid' (HP.out cA cq lA lq kA kq _ (bel_then hB hba) (h1.below hba) (h2.below hba) (h3.below hba))
  have HB1 := hid' (bel_then hB hba)
  clear h1 h2 h3 hB hba
  go_wp2_with fail
  refine HPL.out.mono ?_
  rintro e w2 ⟨rfl, hB2⟩
  have HB2 := hid' (bel_then HB1.out hB2)
  clear hB2
  go_wp2
  go_ret
  exact ⟨rfl, HB2.out⟩
end Go.Proofs.YtockkjhciojgbaaGreatDoor
