
/- Who is silent doesn't count: the law, walked. No condition. -/
import Derived.Test.YtgbcnlchpolcbaaSilSt
import Derived.Test.YtgbcnlchpolcbaaOwn
import Derived.Test.YtgbcnlchpolcbaaOpen
namespace Go.Proofs.Ytgbcnlchpolcbaa
set_option maxRecDepth 100000
set_option linter.unusedSimpArgs false
open Go.RowKit
set_option linter.unusedVariables false
set_option linter.unusedSimpArgs false

abbrev Tn := Int × Int × Bool
def RTn (w : World) (cs : List Value) (x : Tn) : Prop := cs.length = 3 ∧ (RInt .u8) w ((cs.drop 0).take 1) x.1 ∧ (RInt .u8) w ((cs.drop 1).take 1) x.2.1 ∧ RBool w ((cs.drop 2).take 1) x.2.2
theorem RTn.cells {w : World} {cs : List Value} {x : Tn} (h : RTn w cs x) : cs = [.int .u8 x.1, .int .u8 x.2.1, .bool x.2.2] ∧ (0 ≤ x.1 ∧ x.1 < 256) ∧ (0 ≤ x.2.1 ∧ x.2.1 < 256) := by
  obtain ⟨hl, ⟨h1, w1⟩, ⟨h2, w2⟩, h3⟩ := h
  match cs, hl with
  | [a, b, c], _ =>
    unfold RBool at h3
    simp at h1 h2 h3
    subst h1 h2 h3
    exact ⟨rfl, wf_u8 w1, wf_u8 w2⟩
def fTn (x : Tn) : List Value := [.int .u8 x.1, .int .u8 x.2.1, .bool x.2.2]
def rowTn (w : World) (A : Option Addr) (l : List Tn) : Prop := ∀ j x, l[j]? = some x → ∃ ad row, A = some ad ∧ RTn w row x ∧ row.length = 3 ∧ ∀ i u, row[i]? = some u → w.cell? ((ad.add (j * 3)).add i) = some u
theorem rowTn.rds {w : World} {A : Option Addr} {l : List Tn} (h : rowTn w A l) : RdS w A 3 fTn l := fun j x hj => by
  obtain ⟨ad, row, e, ha, hl, hc⟩ := h j x hj
  obtain ⟨rfl, _⟩ := ha.cells
  exact ⟨ad, e, rfl, hc⟩
theorem rowTn.bd {w : World} {A : Option Addr} {l : List Tn} (h : rowTn w A l) : ∀ r ∈ l, (0 ≤ r.1 ∧ r.1 < 256) ∧ (0 ≤ r.2.1 ∧ r.2.1 < 256) := fun r hr => by
  obtain ⟨j, hj⟩ := List.getElem?_of_mem hr
  obtain ⟨ad, row, e, ha, hl, hc⟩ := h j r hj
  exact ha.cells.2
def kkS (keys : List Int) (n k : Nat) : List Int := keys.take k ++ List.replicate (n - k) 0
theorem kkS_next {keys : List Int} {n k : Nat} {x : Int} (hn : n = keys.length) (hk : k < n) (hx : keys[k]? = some x) : alSet (kkS keys n k) (k : Int) x = kkS keys n (k + 1) := by
  have hkl : (keys.take k).length = k := by rw [List.length_take]; omega
  unfold alSet kkS
  rw [if_pos (by omega), Int.toNat_natCast]
  obtain ⟨m, hm⟩ : ∃ m, n - k = m + 1 := ⟨n - k - 1, by omega⟩
  rw [hm, List.replicate_succ, List.set_append_right _ _ (by omega), hkl, Nat.sub_self, List.set_cons_zero, show n - (k + 1) = m by omega, List.take_add_one, hx]
  simp
def pG (G : List Nat) : List Value := G.map fun x => .pointer (some ⟨x, 0, none⟩)
theorem own_not {W : World} {base : Nat} {v : Value} {n : Nat} {xs : List Value} (h : W.ownsRow base 32 1 v n xs) {k : Nat} (hk : v.ownBlock = some k) : ∃ cur, Blk W k 32 cur ∧ base ≤ k := by
  rcases h.2 with ⟨rfl, _⟩ | ⟨g, cap, cur, rfl, hb, hgg, _⟩
  · cases hk
  · have : g = k := by simpa [Value.ownBlock] using hk
    subst this
    exact ⟨cur, hgg, hb⟩
theorem sts_not {W : World} {G : List Nat} {wait : Int} {st : List (Int × Int)} (h : Sts W G wait st) {x : Nat} (hx : x ∈ G) {cur : Array Value} (hb : Blk W x 32 cur) : False := by
  obtain ⟨i, hi⟩ := List.getElem?_of_mem hx
  have hil : i < st.length := by rw [← h.1]; exact (List.getElem?_eq_some_iff.1 hi).1
  have hI := h.2 i x _ hi (List.getElem?_eq_getElem hil)
  exact absurd rfl (Blk.ne hb hI (by decide))
theorem madeOne (n : Nat) : madeCells (Value.int .i64 0).cells n = (List.replicate n (Value.int .i64 0)).toArray := by
  apply Array.ext'
  exact toList_madeCells_one _ _
theorem addLit (b i : Nat) : (⟨b, 0, none⟩ : Addr).add i = ⟨b, i, none⟩ := by unfold Addr.add; split <;> simp_all
theorem SSt.alloc {w0 W : World} {gc lo hi g bl : Nat} {G : List Nat} {now wait : Int} {keys : List Int} {outs : List Bool} {st : List (Int × Int)} {last : List Int} {ex : List (Nat × TypeId × Array Value)} (h : SSt w0 W gc lo hi g G bl now wait keys outs st last ex) (T : TypeId) (cs : Array Value) :
    SSt w0 (W.alloc (.cells cs T)) gc lo hi g G bl now wait keys outs st last ((W.heap.size, T, cs) :: ex) := by
  have hh := h
  obtain ⟨a1, a2, a3, a4, a5, a6, a7, a8, a9, a10, a11, a12, a13⟩ := h
  obtain ⟨b1, b2, b3, b4, b5, b6, b7, b8, b9, b10, b11, b12, b13⟩ := hh.bel (bel_alloc (bel_refl W) (.cells cs T))
  have hbl := a10.lt
  refine ⟨b1, b2, b3, b4, b5, b6, b7, b8, b9, b10, b11, b12, fun x hx => ?_⟩
  rcases List.mem_cons.1 hx with rfl | hx
  · refine ⟨Blk.new_ _ _ _, fun h => ?_⟩
    rcases h with h | h | h | h
    · have h : W.heap.size = gc := h; omega
    · have h : lo ≤ W.heap.size ∧ W.heap.size < hi := h; omega
    · have h : W.heap.size ∈ G := h
      obtain ⟨i, hi⟩ := List.getElem?_of_mem h
      have hil : i < st.length := by rw [← a9.1]; exact (List.getElem?_eq_some_iff.1 hi).1
      have := Blk.lt (a9.2 i _ _ hi (List.getElem?_eq_getElem hil))
      omega
    · have h : W.heap.size = bl := h; omega
  · exact b13 x hx
theorem SSt.drop {w0 W : World} {gc lo hi g bl : Nat} {G : List Nat} {now wait : Int} {keys : List Int} {outs : List Bool} {st : List (Int × Int)} {last : List Int} {y : Nat × TypeId × Array Value} {ex : List (Nat × TypeId × Array Value)} (h : SSt w0 W gc lo hi g G bl now wait keys outs st last (y :: ex)) : SSt w0 W gc lo hi g G bl now wait keys outs st last ex := by
  obtain ⟨a1, a2, a3, a4, a5, a6, a7, a8, a9, a10, a11, a12, a13⟩ := h
  exact ⟨a1, a2, a3, a4, a5, a6, a7, a8, a9, a10, a11, a12, fun x hx => a13 x (List.mem_cons_of_mem _ hx)⟩
theorem SSt.e0 {w0 W : World} {gc lo hi g bl : Nat} {G : List Nat} {now wait : Int} {keys : List Int} {outs : List Bool} {st : List (Int × Int)} {last : List Int} {y : Nat × TypeId × Array Value} {ex : List (Nat × TypeId × Array Value)} (h : SSt w0 W gc lo hi g G bl now wait keys outs st last (y :: ex)) : Blk W y.1 y.2.1 y.2.2 := (h.2.2.2.2.2.2.2.2.2.2.2.2 y (List.mem_cons_self ..)).1
theorem SSt.lastc {w0 W : World} {gc lo hi g bl : Nat} {G : List Nat} {now wait : Int} {keys : List Int} {outs : List Bool} {st : List (Int × Int)} {last : List Int} {ex : List (Nat × TypeId × Array Value)} (h : SSt w0 W gc lo hi g G bl now wait keys outs st last ex) {i : Nat} {x : Int} (hx : last[i]? = some x) : W.cell? ⟨bl, i, none⟩ = some (.int .i64 x) := by
  have := h.2.2.2.2.2.2.2.2.2.1.cell i
  rw [this, List.getElem?_toArray, List.getElem?_map, hx]; rfl
theorem bSet_nat (l : List Bool) (i : Nat) (x : Bool) : bSet l (i : Int) x = l.set i x := by unfold bSet; rw [if_pos (by omega), Int.toNat_natCast]
set_option maxHeartbeats 8000000 in
theorem wholeSilent (tm : Int) (A : Option Addr) (c : Nat) (keys : List Int) (A2 : Option Addr) (c2 : Nat) (turns : List Tn) (w : World) (ht : (Lit.int .u8 tm).wf = true) (hk : Rd w A (keys.map (.int .i64))) (hkw : ∀ x ∈ keys, (Lit.int .i64 x).wf = true) (hkn : keys.length ≤ maxLen) (hr : rowTn w A2 turns) (hrn : turns.length ≤ maxLen) :
    Calls Try.prog 3 #[.int .u8 tm, .slice A keys.length c, .slice A2 turns.length c2] w fun e w' => e = .returned (.bool true) ∧ Below w.heap.size w w' := by
  have hkn' : keys.length ≤ 9223372036854775807 := hkn
  have hrn' : turns.length ≤ 9223372036854775807 := hrn
  obtain ⟨ht0, ht1⟩ := wf_u8 ht
  have HRK := hid' hk
  have HRT := hid' hr.rds
  have HBD := hid' hr.bd
  have HTN := hid' (tree_New 2 (w.alloc (.cells #[.int .i64 0] 25)) (by omega))
  have HL0 := hid' (bel_alloc (bel_refl w) (.cells #[.int .i64 0] 25))
  have HC0 := hid' (Blk.new_ w 25 #[.int .i64 0])
  obtain ⟨Q, hQ⟩ : ∃ Q : Nat, tm % 20 = (Q : Int) := ⟨(tm % 20).toNat, by omega⟩
  obtain ⟨wt, hwt⟩ : ∃ wt : Nat, wt = 1 + Q := ⟨_, rfl⟩
  have z1 : (1 : Int) + (Q : Int) = (wt : Int) := by omega
  have hwt1 : 1 ≤ wt ∧ wt ≤ 20 := by omega
  clear hkw hk hr hkn hrn ht hwt
  by_cases hbig : keys.length < 1 ∨ 30 < keys.length ∨ 100 < turns.length
  · go_enter Try.func3, Try.ntmps3
    go_wp2_with fail
    refine HTN.out.mono ?_
    rintro e w2 ⟨g, rfl, hT, hB2⟩
    have HT := hid' hT
    have HL2 := hid' (bel_then HL0.out hB2)
    have hszw := HL0.out.size
    clear hT hB2
    go_wp2_with fail
    refine (tree_Len _ _ g _ _ w2 HT.out).mono ?_
    rintro e w' ⟨rfl, rfl⟩
    go_wp2_with fail
    refine (tree_Leave _ _ g _ _ 1 true w2 HT.out).mono ?_
    rintro e w3 ⟨rfl, -, hM⟩
    have HL3 := hid' (bel_mod HL2.out hM (fun i hi e => by omega))
    have hh : treeHas (List.replicate (Int.toNat 2) (0 : Int)).length 1 = true := by decide
    rw [hh]
    rcases Nat.lt_or_ge keys.length 1 with h1 | h1
    · have h1' : (keys.length : Int) < 1 := by omega
      go_wp2
      go_ret
      exact ⟨rfl, HL3.out⟩
    · have h1' : ¬ (keys.length : Int) < 1 := by omega
      rcases Nat.lt_or_ge 30 keys.length with h2 | h2
      · have h2' : (30 : Int) < (keys.length : Int) := by omega
        go_wp2
        go_ret
        exact ⟨rfl, HL3.out⟩
      · have h2' : ¬ (30 : Int) < (keys.length : Int) := by omega
        have h3' : (100 : Int) < (turns.length : Int) := by omega
        go_wp2
        go_ret
        exact ⟨rfl, HL3.out⟩
  obtain ⟨n, hn⟩ : ∃ n, n = keys.length := ⟨_, rfl⟩
  obtain ⟨m, hm⟩ : ∃ m, m = turns.length := ⟨_, rfl⟩
  rw [← hn] at hbig hkn' ⊢
  rw [← hm] at hbig hrn' ⊢
  have HN := hid' hn
  have HM := hid' hm
  have b1 : ¬ (n : Int) < 1 := by omega
  have b2 : ¬ (30 : Int) < (n : Int) := by omega
  have b3 : ¬ (100 : Int) < (m : Int) := by omega
  have hn30 : n ≤ 30 := by omega
  have hm100 : m ≤ 100 := by omega
  have hn1 : 1 ≤ n := by omega
  have HTN2 := hid' (fun W => tree_New (n : Int) W (by omega))
  have hmk := mkn_run (P := Try.prog) 22 3 (.int .i64 0) 1 8 (by kernel_rfl) (by kernel_rfl) n (by omega) (by omega)
  rw [Nat.mul_one] at hmk
  clear hn hm hbig
  go_enter Try.func3, Try.ntmps3
  go_wp2_with fail
  refine HTN.out.mono ?_
  rintro e w2 ⟨g0, rfl, hT, hB2⟩
  have HT := hid' hT
  have HL2 := hid' (bel_then HL0.out hB2)
  have HC2 := hid' (HC0.out.below hB2)
  have hszw := HL0.out.size
  clear hT hB2
  go_wp2_with fail
  refine (tree_Len _ _ g0 _ _ w2 HT.out).mono ?_
  rintro e w' ⟨rfl, rfl⟩
  go_wp2_with fail
  refine (tree_Leave _ _ g0 _ _ 1 true w2 HT.out).mono ?_
  rintro e w3 ⟨rfl, -, hM⟩
  have hcs := HC0.out.lt
  have HL3 := hid' (bel_mod HL2.out hM (fun i hi e => by omega))
  have HC3 := hid' (HC2.out.mod hM (fun e => by omega))
  have hh : treeHas (List.replicate (Int.toNat 2) (0 : Int)).length 1 = true := by decide
  rw [hh]
  clear hM hh hcs hszw HTN HC0 HC2 HT
  go_wp2_with fail
  refine (HTN2.out w3).mono ?_
  rintro e w4 ⟨g, rfl, hT4, hB4⟩
  rw [Int.toNat_natCast] at hT4
  have HT4 := hid' hT4
  have HL4 := hid' (bel_then HL3.out hB4)
  have HC4 := hid' (HC3.out.below hB4)
  have HSZ := hid' (show w.heap.size < w3.heap.size ∧ w3.heap.size ≤ w4.heap.size from ⟨HC3.out.lt, hB4.size⟩)
  clear hT4 hB4 HC3
  have hbl := bel_alloc (bel_refl w4) (.cells (madeCells #[Value.int .i64 0] n) 3)
  have hS0 : SSt w (w4.alloc (.cells (madeCells #[Value.int .i64 0] n) 3)) w.heap.size w3.heap.size w4.heap.size g [] w4.heap.size 0 (wt : Int) (List.replicate n 0) (List.replicate n false) [] (List.replicate n 0) [] := by
    have h1 := HSZ.out
    have hbb : Blk (w4.alloc (.cells (madeCells #[Value.int .i64 0] n) 3)) w4.heap.size 3 ((List.replicate n (0 : Int)).map (.int .i64)).toArray := by
      refine (Blk.new_ w4 3 (madeCells #[Value.int .i64 0] n)).cast ?_
      rw [List.map_replicate]
      exact madeOne n
    exact ⟨bel_then HL4.out hbl, ⟨Nat.le_refl _, h1.1⟩, Nat.le_refl _, h1.2, fun x hx => (by cases hx), List.nodup_nil, HC4.out.below hbl, HT4.out.mod (Mod.of_below (S := fun _ => False) hbl) (fun _ _ _ h => h), ⟨rfl, fun i gi s a => by simp at a⟩, hbb, by unfold I64; decide, by unfold I64; omega, Keep.nil _ _⟩
  have HS0 := hid' hS0
  have hsz4 : (w4.alloc (.cells (madeCells #[Value.int .i64 0] n) 3)).heap.size = w4.heap.size + 1 := by simp
  have HO0 := hid' (World.ownsRow_nil (w4.alloc (.cells (madeCells #[Value.int .i64 0] n) 3)) (w4.heap.size + 1) 32 1)
  have HB0 := hid' (bel_refl (w4.alloc (.cells (madeCells #[Value.int .i64 0] n) 3)))
  clear hbl hS0
  go_wp2_with fail
  obtain ⟨gc, hgc⟩ : ∃ gc, gc = w.heap.size := ⟨_, rfl⟩
  obtain ⟨bl, hbl⟩ : ∃ bl, bl = w4.heap.size := ⟨_, rfl⟩
  rw [← hgc] at HS0
  rw [← hbl] at HS0 HO0 hsz4
  rw [← hgc, ← hbl]
  generalize w4.alloc (.cells (madeCells #[Value.int .i64 0] n) 3) = w5 at *
  generalize w3.heap.size = lo at *
  have HS5 := hid' hsz4
  clear hsz4 hgc hbl
  go_loopw [10, 65] (fun v10 v65 wr => ∃ (k : Nat) (G : List Nat), k ≤ n ∧ v65 = .int .i64 k ∧ G.length = k ∧ SSt w wr gc lo bl g G bl 0 (wt : Int) (kkS keys n k) (List.replicate n false) (List.replicate k ((wt : Int), 0)) (List.replicate n 0) [] ∧ wr.ownsRow (bl + 1) 32 1 v10 k (pG G)) (fun _ v65 _ => n - (intOf v65).toNat)
  case atStart => exact ⟨0, [], Nat.zero_le _, rfl, rfl, by rw [show kkS keys n 0 = List.replicate n 0 from by unfold kkS; simp]; exact HS0.out, HO0.out⟩
  case round =>
    obtain ⟨k, G, hk, rfl, hGl, hS, hO⟩ := hrel
    have HS := hid' hS
    have HO := hid' hO
    have HGL := hid' hGl
    by_cases hlt : k < n
    · obtain ⟨ad, x, rfl, hx, hcell⟩ := (HRK.out.below hS.1).at_ (j := k) (by rw [← HN.out]; exact hlt)
      have HX := hid' hx
      clear hx hS hO hGl
      go_wp2_with fail
      refine (HS.out.set_ (k : Int) x).mono ?_
      rintro e wa ⟨rfl, hSa, hMa⟩
      rw [kkS_next HN.out hlt HX.out] at hSa
      have HSa := hid' hSa
      have HOa := hid' (own_mod HO.out hMa (fun j hj h => by have := own_base' HO.out j hj; have := HS.out.2.2.2.1; omega))
      clear hSa hMa
      go_wp2_with fail
      refine (HSa.out.new_).mono ?_
      rintro e wb ⟨gi, rfl, hgi, hSb, hBb⟩
      have hst : List.replicate k ((wt : Int), (0 : Int)) ++ [(satAdd 0 (max (wt : Int) 0), 0)] = List.replicate (k + 1) ((wt : Int), (0 : Int)) := by
        rw [show satAdd 0 (max (wt : Int) 0) = (wt : Int) by unfold satAdd; rw [show max (wt : Int) 0 = wt by omega]; split; omega; split <;> omega, List.replicate_succ']
      rw [hst] at hSb
      have HSb := hid' hSb
      have HOb := hid' (own_below HOa.out hBb)
      have hbase : bl + 1 ≤ wb.heap.size := by have := hSb.2.2.2.2.2.2.2.2.2.1.lt; omega
      have hone := hid' (show ∀ u ∈ [(.pointer (some ⟨gi, 0, none⟩) : Value)], u.oneCell' = true by intro u hu; rw [List.mem_singleton] at hu; subst hu; rfl)
      have hby : (k + 1) * 8 ≤ 140737488355328 := by omega
      clear hSb hBb hgi hst
      go_wp2_with (at_builtin; (refine ap_cells (bl + 1) rfl _ _ 30 32 (.pointer none) 1 8 rfl (by kernel_rfl) (by kernel_rfl) rfl (by decide) (by decide) u10 k (pG G) [.pointer (some ⟨gi, 0, none⟩)] rfl rfl rfl hone.out HOb.out hbase hby ?_); intro v1 wc hown hg hat)
      have hmc := Mod.of_grown hg
      have hSc := HSb.out.nop hmc (fun i hi e => by have h1 := own_base' HOb.out i e; have h2 := HSb.out.2.1; have h3 := HSb.out.2.2.1; have h4 := HSb.out.2.2.2.1; omega) (fun j hj e => by
        obtain ⟨cur, hcb, hle⟩ := own_not HOb.out e
        have h2 := HSb.out.2.1; have h3 := HSb.out.2.2.2.1
        rcases hj with h | h | h | h
        · omega
        · omega
        · exact sts_not HSb.out.2.2.2.2.2.2.2.2.1 h hcb
        · omega) (fun x hx => by cases hx)
      have HSc := hid' hSc
      have HOc := hid' hown
      clear hmc hSc hg hat hown
      go_roundw
      case rel => exact ⟨k + 1, G ++ [gi], by omega, by go_num, by simp [HGL.out], HSc.out, by unfold pG; rw [List.map_append]; exact HOc.out⟩
      case measure => (simp only [intOf]; omega)
    · obtain rfl : k = n := by omega
      rw [show kkS keys k k = keys from by unfold kkS; rw [HN.out]; simp] at HS
      obtain ⟨rb, cap, cur, hv10, hrb, hcurb, hncap, hcapm, hcsz, htake⟩ : ∃ rb cap cur, u10 = .slice (some ⟨rb, 0, none⟩) k cap ∧ bl + 1 ≤ rb ∧ wr.heap[rb]? = some (.cells cur 32 (0, 0)) ∧ k ≤ cap ∧ cap ≤ maxLen ∧ cur.size = cap * 1 ∧ cur.toList.take (k * 1) = pG G := by
        rcases HO.out.2 with ⟨_, h0⟩ | h
        · omega
        · exact h
      subst hv10
      have hcell : ∀ (i gi : Nat), G[i]? = some gi → cur[i]? = some (.pointer (some ⟨gi, 0, none⟩)) := by
        intro i gi hi
        have hl : i < k := by rw [← HGL.out]; exact (List.getElem?_eq_some_iff.1 hi).1
        have h1 : (pG G)[i]? = some (.pointer (some ⟨gi, 0, none⟩)) := by unfold pG; rw [List.getElem?_map, hi]; rfl
        rw [← htake, List.getElem?_take_of_lt (by omega)] at h1
        rwa [← Array.getElem?_toList]
      have hS1 : SSt w wr gc lo bl g G bl 0 (wt : Int) keys (List.replicate k false) (List.replicate k ((wt : Int), 0)) (List.replicate k 0) [(rb, 32, cur)] := by
        obtain ⟨a1, a2, a3, a4, a5, a6, a7, a8, a9, a10, a11, a12, a13⟩ := HS.out
        refine ⟨a1, a2, a3, a4, a5, a6, a7, a8, a9, a10, a11, a12, fun x hx => ?_⟩
        rw [List.mem_singleton] at hx
        subst hx
        refine ⟨hcurb, fun h => ?_⟩
        rcases h with h | h | h | h
        · have h : rb = gc := h; omega
        · have h : lo ≤ rb ∧ rb < bl := h; omega
        · exact sts_not a9 h hcurb
        · have h : rb = bl := h; omega
      have hK0 : RK 0 (wt : Int) k (List.replicate k ((wt : Int), 0)) (List.replicate k 0) (List.replicate k false) := by
        refine ⟨by simp, by simp, fun i s la o a b c => ?_⟩
        rw [List.getElem?_replicate] at a b c
        split at a
        · rename_i hi
          rw [if_pos hi] at b c
          have e1 := Option.some.inj a
          have e2 := Option.some.inj b
          have e3 := Option.some.inj c
          subst e1 e2 e3
          exact ⟨.inl rfl, by show (wt : Int) = 0 + wt; omega, Int.le_refl _, Int.le_refl _, fun h => absurd (show (0 : Int) = 1 from h) (by decide), rfl, fun _ _ => by show (0 : Int) < (wt : Int); omega⟩
        · cases a
      have HS1 := hid' hS1
      have HK0 := hid' hK0
      have HCELL := hid' hcell
      clear hS hO hGl hS1 hK0 hcell hrb hcurb hncap hcapm hcsz htake HO HS HO0 HS0 HB0
      have hk100 := HS1.out.2.2.2.2.2.2.2.2.2.1
      clear hk100 hmk HTN2 HT4 HC4
      obtain ⟨adR, hadR⟩ : ∃ a : Addr, a = ⟨rb, 0, none⟩ := ⟨_, rfl⟩
      obtain ⟨adL, hadL⟩ : ∃ a : Addr, a = ⟨bl, 0, none⟩ := ⟨_, rfl⟩
      rw [← hadR, ← hadL]
      have HAR := hid' hadR
      have HAL := hid' hadL
      clear hadR hadL
      go_wp2_with fail
      go_loopw [82] (fun v82 wr => ∃ (j : Nat) (now : Int) (outs : List Bool) (st : List (Int × Int)) (last : List Int), j ≤ m ∧ v82 = .int .i64 j ∧ 0 ≤ now ∧ now ≤ 7 * (j : Int) ∧ SSt w wr gc lo bl g G bl now (wt : Int) keys outs st last [(rb, 32, cur)] ∧ RK now (wt : Int) k st last outs) (fun v82 _ => m - (intOf v82).toNat)
      case atStart => exact ⟨0, 0, _, _, _, Nat.zero_le _, rfl, Int.le_refl _, by omega, HS1.out, HK0.out⟩
      case round =>
        obtain ⟨j, now, outs, st, last, hj, rfl, hnow0, hnow1, hS, hK⟩ := hrel
        have HS := hid' hS
        have HK := hid' hK
        by_cases hlt2 : j < m
        · obtain ⟨x, hx⟩ : ∃ x, turns[j]? = some x := ⟨_, List.getElem?_eq_getElem (by rw [← HM.out]; exact hlt2)⟩
          obtain ⟨⟨by0, by1⟩, ⟨who0, who1⟩⟩ := HBD.out x (List.mem_of_getElem? hx)
          obtain ⟨ad2, e2, -, hc⟩ := (HRT.out.below hS.1) j x hx
          obtain ⟨by_, who, en⟩ := x
          simp only at by0 by1 who0 who1
          have t0 : wr.cell? (ad2.add (j * 3)) = some (.int .u8 by_) := hc 0 _ rfl
          have t1 : wr.cell? ⟨(ad2.add (j * 3)).block, (ad2.add (j * 3)).off + 1, none⟩ = some (.int .u8 who) := hc 1 _ rfl
          have t2 : wr.cell? ⟨(ad2.add (j * 3)).block, (ad2.add (j * 3)).off + 2, none⟩ = some (.bool en) := hc 2 _ rfl
          subst e2
          obtain ⟨b8, hb8⟩ : ∃ b8 : Nat, by_ % 8 = (b8 : Int) := ⟨(by_ % 8).toNat, by omega⟩
          have hb87 : b8 ≤ 7 := by omega
          obtain ⟨q, hq⟩ : ∃ q : Nat, who % (k : Int) = (q : Int) := ⟨(who % (k : Int)).toNat, (Int.toNat_of_nonneg (Int.emod_nonneg _ (by omega))).symm⟩
          have hqk : q < k := by have := Int.emod_lt_of_pos who (show (0 : Int) < (k : Int) by omega); omega
          have HSa := hid' (hS.alloc 36 #[.int .u8 by_, .int .u8 who, .bool en])
          have HGO := hid' (fun W (h : SSt w W gc lo bl g G bl now (wt : Int) keys outs st last [(wr.heap.size, 36, #[.int .u8 by_, .int .u8 who, .bool en]), (rb, 32, cur)]) => h.go (b8 : Int) (by unfold I64; omega))
          obtain ⟨now2, hnow2⟩ : ∃ now2, now2 = clockGo now (b8 : Int) := ⟨_, rfl⟩
          have hn2 : now2 = now + b8 := by rw [hnow2]; unfold clockGo satAdd; rw [if_neg (by omega)]; split; omega; split <;> omega
          rw [← hnow2] at HGO
          have HK2 := hid' (hK.go (now' := now2) (by omega))
          have hnb : 0 ≤ now2 ∧ now2 ≤ 7 * ((j : Int) + 1) := by omega
          have hnb2 : now2 ≤ 700 := by omega
          clear hx hc hS hK hnow2 hn2 HS HK hnow0 hnow1
          go_wp2_with fail
          refine (HGO.out _ HSa.out).mono ?_
          rintro e wa ⟨rfl, hSb⟩
          have HSb := hid' hSb
          obtain ⟨bx, hbx⟩ : ∃ bx, bx = wr.heap.size := ⟨_, rfl⟩
          rw [← hbx] at HSb ⊢
          clear hSb HGO HSa hbx t0 t1 t2
          go_wp2_with fail
          go_loopw [93] (fun v93 wr => ∃ (i : Nat) (outs2 : List Bool) (st2 : List (Int × Int)), i ≤ k ∧ v93 = .int .i64 i ∧ SSt w wr gc lo bl g G bl now2 (wt : Int) keys outs2 st2 last [(bx, 36, #[.int .u8 by_, .int .u8 who, .bool en]), (rb, 32, cur)] ∧ RK now2 (wt : Int) i st2 last outs2) (fun v93 _ => k - (intOf v93).toNat)
          case atStart => exact ⟨0, outs, st, Nat.zero_le _, rfl, HSb.out, HK2.out⟩
          case round =>
            obtain ⟨i, outs2, st2, hi, rfl, hS, hK⟩ := hrel
            have HS := hid' hS
            have HK := hid' hK
            clear hS hK
            by_cases hlt3 : i < k
            · obtain ⟨gi, hgi⟩ : ∃ gi, G[i]? = some gi := ⟨_, List.getElem?_eq_getElem (by rw [HGL.out]; exact hlt3)⟩
              obtain ⟨s, hs⟩ : ∃ s, st2[i]? = some s := ⟨_, List.getElem?_eq_getElem (by rw [← HS.out.2.2.2.2.2.2.2.2.1.1, HGL.out]; exact hlt3)⟩
              obtain ⟨u, is⟩ := s
              have r0 : wr.cell? (adR.add i) = some (.pointer (some ⟨gi, 0, none⟩)) := by rw [HAR.out, addLit]; exact (HS.out.drop.e0.cell i).trans (HCELL.out i gi hgi)
              have HTK := hid' (HS.out.tick hgi hs)
              have HRK3 := hid' (HK.out.tick hs)
              clear hgi hs
              obtain ⟨tb, htb⟩ : ∃ tb, tb = iTickB is u now2 := ⟨_, rfl⟩
              rw [← htb] at HTK HRK3
              clear htb
              go_wp2_with fail
              refine HTK.out.mono ?_
              rintro e wy ⟨rfl, hSy⟩
              have HSy := hid' hSy
              clear hSy r0
              cases tb with
              | true =>
                have HLV := hid' (HSy.out.leave (i : Int) true)
                rw [bSet_nat] at HLV
                have hk4 := HRK3.out
                rw [if_pos rfl] at hk4
                have HK4 := hid' hk4
                clear hk4
                go_wp2_with fail
                refine HLV.out.mono ?_
                rintro e wz ⟨rfl, hSz⟩
                have HSz := hid' hSz
                clear hSz
                go_wp2
                go_roundw
                case rel => exact ⟨i + 1, _, _, by omega, by go_num, HSz.out, HK4.out⟩
                case measure => (simp only [intOf]; omega)
              | false =>
                have hk4 := HRK3.out
                rw [if_neg (by decide)] at hk4
                have HK4 := hid' hk4
                clear hk4
                go_wp2
                go_roundw
                case rel => exact ⟨i + 1, _, _, by omega, by go_num, HSy.out, HK4.out⟩
                case measure => (simp only [intOf]; omega)
            · obtain rfl : i = k := by omega
              have c1 : wr.cell? ⟨bx, 1, none⟩ = some (.int .u8 who) := HS.out.e0.cell 1
              have c2 : wr.cell? ⟨bx, 2, none⟩ = some (.bool en) := HS.out.e0.cell 2
              obtain ⟨gq, hgq⟩ : ∃ gq, G[q]? = some gq := ⟨_, List.getElem?_eq_getElem (by rw [HGL.out]; exact hqk)⟩
              obtain ⟨s, hs⟩ : ∃ s, st2[q]? = some s := ⟨_, List.getElem?_eq_getElem (by rw [← HS.out.2.2.2.2.2.2.2.2.1.1, HGL.out]; exact hqk)⟩
              obtain ⟨u, is⟩ := s
              have hllq : last.length = i := by rw [← HK.out.1, ← HS.out.2.2.2.2.2.2.2.2.1.1, HGL.out]
              obtain ⟨la, hla⟩ : ∃ la, last[q]? = some la := ⟨_, List.getElem?_eq_getElem (by rw [hllq]; exact hqk)⟩
              have r0 : wr.cell? (adR.add q) = some (.pointer (some ⟨gq, 0, none⟩)) := by rw [HAR.out, addLit]; exact (HS.out.drop.e0.cell q).trans (HCELL.out q gq hgq)
              have HGQ := hid' hgq
              have HSQ := hid' hs
              have HLQ := hid' hla
              clear hgq hs hla hllq
              cases en with
              | true =>
                have HEN := hid' (HS.out.end_ HGQ.out HSQ.out)
                have HKE := hid' (HK.out.end_ HSQ.out)
                go_wp2_with fail
                refine HEN.out.mono ?_
                rintro e wy ⟨rfl, hSy⟩
                have HLV := hid' (hSy.leave (q : Int) true)
                rw [bSet_nat] at HLV
                clear hSy r0 c1 c2
                go_wp2_with fail
                refine HLV.out.mono ?_
                rintro e wz ⟨rfl, hSz⟩
                have HSz := hid' hSz
                clear hSz
                go_wp2_with fail
                go_loopw [19, 20, 134] (fun v19 v20 v134 wr => ∃ i5 : Nat, i5 ≤ i ∧ v134 = .int .i64 i5 ∧ v19 = .int .i64 (lkP keys (outs2.set q true) i5) ∧ v20 = .bool (loP keys (outs2.set q true) i5) ∧ SSt w wr gc lo bl g G bl now2 (wt : Int) keys (outs2.set q true) (st2.set q (u, iEnd is 2)) last [(bx, 36, #[.int .u8 by_, .int .u8 who, .bool true]), (rb, 32, cur)]) (fun _ _ v134 _ => i - (intOf v134).toNat)
                case atStart => exact ⟨0, Nat.zero_le _, rfl, rfl, rfl, HSz.out⟩
                case round =>
                  obtain ⟨i5, hi5, rfl, rfl, rfl, hS⟩ := hrel
                  have HSf := hid' hS
                  clear hS
                  by_cases hlt4 : i5 < i
                  · obtain ⟨gi, hgi⟩ : ∃ gi, G[i5]? = some gi := ⟨_, List.getElem?_eq_getElem (by rw [HGL.out]; exact hlt4)⟩
                    obtain ⟨s, hs⟩ : ∃ s, ((st2.set q (u, iEnd is 2)))[i5]? = some s := ⟨_, List.getElem?_eq_getElem (by rw [← HSf.out.2.2.2.2.2.2.2.2.1.1, HGL.out]; exact hlt4)⟩
                    obtain ⟨u5, is5⟩ := s
                    have hll : (last).length = i := by rw [← (HKE.out).1, ← HSf.out.2.2.2.2.2.2.2.2.1.1, HGL.out]
                    obtain ⟨la, hla⟩ : ∃ la, (last)[i5]? = some la := ⟨_, List.getElem?_eq_getElem (by rw [hll]; exact hlt4)⟩
                    obtain ⟨adk, x, eA, hx, hcx⟩ := (HRK.out.below HSf.out.1).at_ (j := i5) (by rw [← HN.out]; exact hlt4)
                    obtain ⟨hact, hinn⟩ := (HKE.out).act (Nat.le_of_eq hll) hs hla
                    have hnx := lk_next keys (outs2.set q true) i5 x hx
                    rw [hinn] at hnx
                    have HNX := hid' hnx
                    have HOV := hid' (fun W (hd : Dr wr W) => (HSf.out.bel hd.below).over hgi hs)
                    have HNO := hid' (fun W (hd : Dr wr W) => (HSf.out.bel hd.below).nowc)
                    have HIS := hid' (fun W (hS : SSt w W gc lo bl g G bl now2 (wt : Int) keys (outs2.set q true) (st2.set q (u, iEnd is 2)) last [(bx, 36, #[.int .u8 by_, .int .u8 who, .bool true]), (rb, 32, cur)]) => hS.isc hgi hs)
                    have r0 : wr.cell? (adR.add i5) = some (.pointer (some ⟨gi, 0, none⟩)) := by rw [HAR.out, addLit]; exact (HSf.out.drop.e0.cell i5).trans (HCELL.out i5 gi hgi)
                    have l0 : wr.cell? (adL.add i5) = some (.int .i64 la) := by rw [HAL.out, addLit]; exact HSf.out.lastc hla
                    have hlb := ((HKE.out).2.2 i5 (u5, is5) la _ hs hla (List.getElem?_eq_getElem (by rw [(HKE.out).2.1, hll]; exact hlt4)))
                    have hla0 : 0 ≤ la := hlb.2.2.1
                    have hla1 : la ≤ now2 := hlb.2.2.2.1
                    obtain ⟨lw, hlw⟩ : ∃ lw, la + (wt : Int) = lw := ⟨_, rfl⟩
                    rw [hlw] at hact
                    have y1 : IntKind.i64.wrap lw = lw := by rw [IntKind.wrap_i64]; omega
                    subst eA
                    obtain ⟨lk, hlk⟩ : ∃ lk, lk = lkP keys (outs2.set q true) i5 := ⟨_, rfl⟩
                    obtain ⟨lo', hlo'⟩ : ∃ lo', lo' = loP keys (outs2.set q true) i5 := ⟨_, rfl⟩
                    rw [← hlk, ← hlo'] at HNX ⊢
                    obtain ⟨ov, hov⟩ : ∃ ov, ov = idleOver is5 := ⟨_, rfl⟩
                    rw [← hov] at HOV hact
                    obtain ⟨d, hd⟩ : ∃ d, d = decide (now2 < lw) := ⟨_, rfl⟩
                    have HD := hid' hd
                    rw [← hd] at hact
                    have HACT := hid' hact
                    clear hgi hs hll hla hx hinn hnx hlb hact hlk hlo' hov hd hla0 hla1
                    cases ov with
                    | true =>
                      have hact2 := HACT.out
                      simp only [Bool.not_true, Bool.false_and] at hact2
                      have his : ¬ is5 = 0 := by intro h; rw [h] at hact2; simp at hact2
                      have hisb : (is5 == 0) = false := by simpa using his
                      have hnx2 := HNX.out
                      rw [show (decide (is5 = 0)) = false from by simpa using his, if_neg (by simp)] at hnx2
                      have HN2 := hid' hnx2
                      clear hact2 his hnx2
                      go_wp2_with fail
                      clear r0
                      go_quiet ((go_at_call 14; exact quiet_same (HOV.out _ (by repeat (first | exact Dr.refl _ | apply Dr.step | apply Dr.stepd))) (by repeat (first | exact Dr.refl _ | apply Dr.step | apply Dr.stepd))))
                      all_goals
                        go_wp2_with fail
                        refine (HIS.out _ (HSf.out.bel (by first | exact bel_refl _ | exact bel_drewN (bel_refl _) _ | exact bel_drew (bel_refl _)))).mono ?_
                        rintro e w' ⟨rfl, rfl⟩
                        go_wp2
                        go_roundw
                        case rel => exact ⟨i5 + 1, by omega, by go_num, by rw [(Prod.mk.inj HN2.out).1], by rw [(Prod.mk.inj HN2.out).2], HSf.out.bel (by first | exact bel_refl _ | exact bel_drewN (bel_refl _) _ | exact bel_drew (bel_refl _))⟩
                        case measure => (simp only [intOf]; omega)
                    | false =>
                      have hact2 := HACT.out
                      simp only [Bool.not_false, Bool.true_and] at hact2
                      by_cases his : is5 = 0
                      · have hdt : decide (now2 < lw) = true := by rw [← HD.out, hact2]; simpa using his
                        have hnx2 := HNX.out
                        rw [show (decide (is5 = 0)) = true from by simpa using his] at hnx2
                        subst his
                        cases lo' with
                        | false =>
                          rw [if_pos ⟨rfl, .inl rfl⟩] at hnx2
                          have HN2 := hid' hnx2
                          clear hact2 hnx2 HNX HACT HD
                          go_wp2_with fail
                          clear r0
                          go_quiet (first
                            | (go_at_call 14; exact quiet_same (HOV.out _ (by repeat (first | exact Dr.refl _ | apply Dr.step | apply Dr.stepd))) (by repeat (first | exact Dr.refl _ | apply Dr.step | apply Dr.stepd)))
                            | (go_at_call 13; exact quiet_same (HNO.out _ (by repeat (first | exact Dr.refl _ | apply Dr.step | apply Dr.stepd))) (by repeat (first | exact Dr.refl _ | apply Dr.step | apply Dr.stepd))))
                          all_goals
                            go_wp2_with fail
                            refine (HIS.out _ (HSf.out.bel (by first | exact bel_refl _ | exact bel_drewN (bel_refl _) _ | exact bel_drew (bel_refl _)))).mono ?_
                            rintro e w' ⟨rfl, rfl⟩
                            go_wp2
                            go_roundw
                            case rel => exact ⟨i5 + 1, by omega, by go_num, by rw [(Prod.mk.inj HN2.out).1], by rw [(Prod.mk.inj HN2.out).2], HSf.out.bel (by first | exact bel_refl _ | exact bel_drewN (bel_refl _) _ | exact bel_drew (bel_refl _))⟩
                            case measure => (simp only [intOf]; omega)
                        | true =>
                          by_cases hxk : x < lk
                          · rw [if_pos ⟨rfl, .inr hxk⟩] at hnx2
                            have HN2 := hid' hnx2
                            clear hact2 hnx2 HNX HACT HD
                            go_wp2_with fail
                            clear r0
                            go_quiet (first
                              | (go_at_call 14; exact quiet_same (HOV.out _ (by repeat (first | exact Dr.refl _ | apply Dr.step | apply Dr.stepd))) (by repeat (first | exact Dr.refl _ | apply Dr.step | apply Dr.stepd)))
                              | (go_at_call 13; exact quiet_same (HNO.out _ (by repeat (first | exact Dr.refl _ | apply Dr.step | apply Dr.stepd))) (by repeat (first | exact Dr.refl _ | apply Dr.step | apply Dr.stepd))))
                            all_goals
                              go_wp2_with fail
                              refine (HIS.out _ (HSf.out.bel (by first | exact bel_refl _ | exact bel_drewN (bel_refl _) _ | exact bel_drew (bel_refl _)))).mono ?_
                              rintro e w' ⟨rfl, rfl⟩
                              go_wp2
                              go_roundw
                              case rel => exact ⟨i5 + 1, by omega, by go_num, by rw [(Prod.mk.inj HN2.out).1], by rw [(Prod.mk.inj HN2.out).2], HSf.out.bel (by first | exact bel_refl _ | exact bel_drewN (bel_refl _) _ | exact bel_drew (bel_refl _))⟩
                              case measure => (simp only [intOf]; omega)
                          · rw [if_neg (show ¬ (true = true ∧ (true = false ∨ x < lk)) from fun h => h.2.elim (fun e => by cases e) hxk)] at hnx2
                            have HN2 := hid' hnx2
                            clear hact2 hnx2 HNX HACT HD
                            go_wp2_with fail
                            clear r0
                            go_quiet (first
                              | (go_at_call 14; exact quiet_same (HOV.out _ (by repeat (first | exact Dr.refl _ | apply Dr.step | apply Dr.stepd))) (by repeat (first | exact Dr.refl _ | apply Dr.step | apply Dr.stepd)))
                              | (go_at_call 13; exact quiet_same (HNO.out _ (by repeat (first | exact Dr.refl _ | apply Dr.step | apply Dr.stepd))) (by repeat (first | exact Dr.refl _ | apply Dr.step | apply Dr.stepd))))
                            all_goals
                              go_wp2_with fail
                              refine (HIS.out _ (HSf.out.bel (by first | exact bel_refl _ | exact bel_drewN (bel_refl _) _ | exact bel_drew (bel_refl _)))).mono ?_
                              rintro e w' ⟨rfl, rfl⟩
                              go_wp2
                              go_roundw
                              case rel => exact ⟨i5 + 1, by omega, by go_num, by rw [(Prod.mk.inj HN2.out).1], by rw [(Prod.mk.inj HN2.out).2], HSf.out.bel (by first | exact bel_refl _ | exact bel_drewN (bel_refl _) _ | exact bel_drew (bel_refl _))⟩
                              case measure => (simp only [intOf]; omega)
                      · have hdt : decide (now2 < lw) = false := by rw [← HD.out, hact2]; simpa using his
                        have hisb : (is5 == 0) = false := by simpa using his
                        have hnx2 := HNX.out
                        rw [show (decide (is5 = 0)) = false from by simpa using his, if_neg (by simp)] at hnx2
                        have HN2 := hid' hnx2
                        clear hact2 his hnx2 HNX HACT HD
                        go_wp2_with fail
                        clear r0
                        go_quiet (first
                          | (go_at_call 14; exact quiet_same (HOV.out _ (by repeat (first | exact Dr.refl _ | apply Dr.step | apply Dr.stepd))) (by repeat (first | exact Dr.refl _ | apply Dr.step | apply Dr.stepd)))
                          | (go_at_call 13; exact quiet_same (HNO.out _ (by repeat (first | exact Dr.refl _ | apply Dr.step | apply Dr.stepd))) (by repeat (first | exact Dr.refl _ | apply Dr.step | apply Dr.stepd))))
                        all_goals
                          go_wp2_with fail
                          refine (HIS.out _ (HSf.out.bel (by first | exact bel_refl _ | exact bel_drewN (bel_refl _) _ | exact bel_drew (bel_refl _)))).mono ?_
                          rintro e w' ⟨rfl, rfl⟩
                          go_wp2
                          go_roundw
                          case rel => exact ⟨i5 + 1, by omega, by go_num, by rw [(Prod.mk.inj HN2.out).1], by rw [(Prod.mk.inj HN2.out).2], HSf.out.bel (by first | exact bel_refl _ | exact bel_drewN (bel_refl _) _ | exact bel_drew (bel_refl _))⟩
                          case measure => (simp only [intOf]; omega)
                  · obtain rfl : i5 = i := by omega
                    have hLK : treeLK keys (outs2.set q true) = lkP keys (outs2.set q true) i5 := by rw [HN.out]; rfl
                    have hLO : treeLO keys (outs2.set q true) = loP keys (outs2.set q true) i5 := by rw [HN.out]; rfl
                    have hLE := HSf.out.least
                    rw [hLK, hLO] at hLE
                    have HLE := hid' hLE
                    have HKA := hid' HKE.out
                    generalize lkP keys (outs2.set q true) i5 = LKZ at *
                    generalize loP keys (outs2.set q true) i5 = LOZ at *
                    clear hLK hLO hLE
                    go_wp2_with fail
                    refine HLE.out.mono ?_
                    rintro e w' ⟨rfl, rfl⟩
                    go_wp2
                    go_roundw
                    case rel => exact ⟨j + 1, now2, _, _, _, by omega, by go_num, hnb.1, by have := hnb.2; push_cast; omega, HSf.out.drop, HKA.out⟩
                    case measure => (simp only [intOf]; omega)
              | false =>
                have HRD := hid' (HS.out.read HGQ.out HSQ.out)
                cases hov : idleOver is with
                | true =>
                  rw [hov, iReadU_over hov, iEnd_over hov] at HRD
                  have hst : st2.set q (u, is) = st2 := by
                    apply List.ext_getElem?
                    intro a
                    by_cases ha : a = q
                    · subst ha
                      have hl := (List.getElem?_eq_some_iff.1 HSQ.out).1
                      rw [List.getElem?_set_self hl, HSQ.out]
                    · rw [List.getElem?_set_ne (fun e => ha e.symm)]
                  rw [hst] at HRD
                  clear hov hst
                  go_wp2_with fail
                  refine HRD.out.mono ?_
                  rintro e wy ⟨rfl, hSy⟩
                  have HSy := hid' hSy
                  clear hSy r0 c1 c2
                  go_wp2_with fail
                  go_loopw [19, 20, 134] (fun v19 v20 v134 wr => ∃ i5 : Nat, i5 ≤ i ∧ v134 = .int .i64 i5 ∧ v19 = .int .i64 (lkP keys outs2 i5) ∧ v20 = .bool (loP keys outs2 i5) ∧ SSt w wr gc lo bl g G bl now2 (wt : Int) keys outs2 st2 last [(bx, 36, #[.int .u8 by_, .int .u8 who, .bool false]), (rb, 32, cur)]) (fun _ _ v134 _ => i - (intOf v134).toNat)
                  case atStart => exact ⟨0, Nat.zero_le _, rfl, rfl, rfl, HSy.out⟩
                  case round =>
                    obtain ⟨i5, hi5, rfl, rfl, rfl, hS⟩ := hrel
                    have HSf := hid' hS
                    clear hS
                    by_cases hlt4 : i5 < i
                    · obtain ⟨gi, hgi⟩ : ∃ gi, G[i5]? = some gi := ⟨_, List.getElem?_eq_getElem (by rw [HGL.out]; exact hlt4)⟩
                      obtain ⟨s, hs⟩ : ∃ s, (st2)[i5]? = some s := ⟨_, List.getElem?_eq_getElem (by rw [← HSf.out.2.2.2.2.2.2.2.2.1.1, HGL.out]; exact hlt4)⟩
                      obtain ⟨u5, is5⟩ := s
                      have hll : (last).length = i := by rw [← (HK.out).1, ← HSf.out.2.2.2.2.2.2.2.2.1.1, HGL.out]
                      obtain ⟨la, hla⟩ : ∃ la, (last)[i5]? = some la := ⟨_, List.getElem?_eq_getElem (by rw [hll]; exact hlt4)⟩
                      obtain ⟨adk, x, eA, hx, hcx⟩ := (HRK.out.below HSf.out.1).at_ (j := i5) (by rw [← HN.out]; exact hlt4)
                      obtain ⟨hact, hinn⟩ := (HK.out).act (Nat.le_of_eq hll) hs hla
                      have hnx := lk_next keys outs2 i5 x hx
                      rw [hinn] at hnx
                      have HNX := hid' hnx
                      have HOV := hid' (fun W (hd : Dr wr W) => (HSf.out.bel hd.below).over hgi hs)
                      have HNO := hid' (fun W (hd : Dr wr W) => (HSf.out.bel hd.below).nowc)
                      have HIS := hid' (fun W (hS : SSt w W gc lo bl g G bl now2 (wt : Int) keys outs2 st2 last [(bx, 36, #[.int .u8 by_, .int .u8 who, .bool false]), (rb, 32, cur)]) => hS.isc hgi hs)
                      have r0 : wr.cell? (adR.add i5) = some (.pointer (some ⟨gi, 0, none⟩)) := by rw [HAR.out, addLit]; exact (HSf.out.drop.e0.cell i5).trans (HCELL.out i5 gi hgi)
                      have l0 : wr.cell? (adL.add i5) = some (.int .i64 la) := by rw [HAL.out, addLit]; exact HSf.out.lastc hla
                      have hlb := ((HK.out).2.2 i5 (u5, is5) la _ hs hla (List.getElem?_eq_getElem (by rw [(HK.out).2.1, hll]; exact hlt4)))
                      have hla0 : 0 ≤ la := hlb.2.2.1
                      have hla1 : la ≤ now2 := hlb.2.2.2.1
                      obtain ⟨lw, hlw⟩ : ∃ lw, la + (wt : Int) = lw := ⟨_, rfl⟩
                      rw [hlw] at hact
                      have y1 : IntKind.i64.wrap lw = lw := by rw [IntKind.wrap_i64]; omega
                      subst eA
                      obtain ⟨lk, hlk⟩ : ∃ lk, lk = lkP keys outs2 i5 := ⟨_, rfl⟩
                      obtain ⟨lo', hlo'⟩ : ∃ lo', lo' = loP keys outs2 i5 := ⟨_, rfl⟩
                      rw [← hlk, ← hlo'] at HNX ⊢
                      obtain ⟨ov, hov⟩ : ∃ ov, ov = idleOver is5 := ⟨_, rfl⟩
                      rw [← hov] at HOV hact
                      obtain ⟨d, hd⟩ : ∃ d, d = decide (now2 < lw) := ⟨_, rfl⟩
                      have HD := hid' hd
                      rw [← hd] at hact
                      have HACT := hid' hact
                      clear hgi hs hll hla hx hinn hnx hlb hact hlk hlo' hov hd hla0 hla1
                      cases ov with
                      | true =>
                        have hact2 := HACT.out
                        simp only [Bool.not_true, Bool.false_and] at hact2
                        have his : ¬ is5 = 0 := by intro h; rw [h] at hact2; simp at hact2
                        have hisb : (is5 == 0) = false := by simpa using his
                        have hnx2 := HNX.out
                        rw [show (decide (is5 = 0)) = false from by simpa using his, if_neg (by simp)] at hnx2
                        have HN2 := hid' hnx2
                        clear hact2 his hnx2
                        go_wp2_with fail
                        clear r0
                        go_quiet ((go_at_call 14; exact quiet_same (HOV.out _ (by repeat (first | exact Dr.refl _ | apply Dr.step | apply Dr.stepd))) (by repeat (first | exact Dr.refl _ | apply Dr.step | apply Dr.stepd))))
                        all_goals
                          go_wp2_with fail
                          refine (HIS.out _ (HSf.out.bel (by first | exact bel_refl _ | exact bel_drewN (bel_refl _) _ | exact bel_drew (bel_refl _)))).mono ?_
                          rintro e w' ⟨rfl, rfl⟩
                          go_wp2
                          go_roundw
                          case rel => exact ⟨i5 + 1, by omega, by go_num, by rw [(Prod.mk.inj HN2.out).1], by rw [(Prod.mk.inj HN2.out).2], HSf.out.bel (by first | exact bel_refl _ | exact bel_drewN (bel_refl _) _ | exact bel_drew (bel_refl _))⟩
                          case measure => (simp only [intOf]; omega)
                      | false =>
                        have hact2 := HACT.out
                        simp only [Bool.not_false, Bool.true_and] at hact2
                        by_cases his : is5 = 0
                        · have hdt : decide (now2 < lw) = true := by rw [← HD.out, hact2]; simpa using his
                          have hnx2 := HNX.out
                          rw [show (decide (is5 = 0)) = true from by simpa using his] at hnx2
                          subst his
                          cases lo' with
                          | false =>
                            rw [if_pos ⟨rfl, .inl rfl⟩] at hnx2
                            have HN2 := hid' hnx2
                            clear hact2 hnx2 HNX HACT HD
                            go_wp2_with fail
                            clear r0
                            go_quiet (first
                              | (go_at_call 14; exact quiet_same (HOV.out _ (by repeat (first | exact Dr.refl _ | apply Dr.step | apply Dr.stepd))) (by repeat (first | exact Dr.refl _ | apply Dr.step | apply Dr.stepd)))
                              | (go_at_call 13; exact quiet_same (HNO.out _ (by repeat (first | exact Dr.refl _ | apply Dr.step | apply Dr.stepd))) (by repeat (first | exact Dr.refl _ | apply Dr.step | apply Dr.stepd))))
                            all_goals
                              go_wp2_with fail
                              refine (HIS.out _ (HSf.out.bel (by first | exact bel_refl _ | exact bel_drewN (bel_refl _) _ | exact bel_drew (bel_refl _)))).mono ?_
                              rintro e w' ⟨rfl, rfl⟩
                              go_wp2
                              go_roundw
                              case rel => exact ⟨i5 + 1, by omega, by go_num, by rw [(Prod.mk.inj HN2.out).1], by rw [(Prod.mk.inj HN2.out).2], HSf.out.bel (by first | exact bel_refl _ | exact bel_drewN (bel_refl _) _ | exact bel_drew (bel_refl _))⟩
                              case measure => (simp only [intOf]; omega)
                          | true =>
                            by_cases hxk : x < lk
                            · rw [if_pos ⟨rfl, .inr hxk⟩] at hnx2
                              have HN2 := hid' hnx2
                              clear hact2 hnx2 HNX HACT HD
                              go_wp2_with fail
                              clear r0
                              go_quiet (first
                                | (go_at_call 14; exact quiet_same (HOV.out _ (by repeat (first | exact Dr.refl _ | apply Dr.step | apply Dr.stepd))) (by repeat (first | exact Dr.refl _ | apply Dr.step | apply Dr.stepd)))
                                | (go_at_call 13; exact quiet_same (HNO.out _ (by repeat (first | exact Dr.refl _ | apply Dr.step | apply Dr.stepd))) (by repeat (first | exact Dr.refl _ | apply Dr.step | apply Dr.stepd))))
                              all_goals
                                go_wp2_with fail
                                refine (HIS.out _ (HSf.out.bel (by first | exact bel_refl _ | exact bel_drewN (bel_refl _) _ | exact bel_drew (bel_refl _)))).mono ?_
                                rintro e w' ⟨rfl, rfl⟩
                                go_wp2
                                go_roundw
                                case rel => exact ⟨i5 + 1, by omega, by go_num, by rw [(Prod.mk.inj HN2.out).1], by rw [(Prod.mk.inj HN2.out).2], HSf.out.bel (by first | exact bel_refl _ | exact bel_drewN (bel_refl _) _ | exact bel_drew (bel_refl _))⟩
                                case measure => (simp only [intOf]; omega)
                            · rw [if_neg (show ¬ (true = true ∧ (true = false ∨ x < lk)) from fun h => h.2.elim (fun e => by cases e) hxk)] at hnx2
                              have HN2 := hid' hnx2
                              clear hact2 hnx2 HNX HACT HD
                              go_wp2_with fail
                              clear r0
                              go_quiet (first
                                | (go_at_call 14; exact quiet_same (HOV.out _ (by repeat (first | exact Dr.refl _ | apply Dr.step | apply Dr.stepd))) (by repeat (first | exact Dr.refl _ | apply Dr.step | apply Dr.stepd)))
                                | (go_at_call 13; exact quiet_same (HNO.out _ (by repeat (first | exact Dr.refl _ | apply Dr.step | apply Dr.stepd))) (by repeat (first | exact Dr.refl _ | apply Dr.step | apply Dr.stepd))))
                              all_goals
                                go_wp2_with fail
                                refine (HIS.out _ (HSf.out.bel (by first | exact bel_refl _ | exact bel_drewN (bel_refl _) _ | exact bel_drew (bel_refl _)))).mono ?_
                                rintro e w' ⟨rfl, rfl⟩
                                go_wp2
                                go_roundw
                                case rel => exact ⟨i5 + 1, by omega, by go_num, by rw [(Prod.mk.inj HN2.out).1], by rw [(Prod.mk.inj HN2.out).2], HSf.out.bel (by first | exact bel_refl _ | exact bel_drewN (bel_refl _) _ | exact bel_drew (bel_refl _))⟩
                                case measure => (simp only [intOf]; omega)
                        · have hdt : decide (now2 < lw) = false := by rw [← HD.out, hact2]; simpa using his
                          have hisb : (is5 == 0) = false := by simpa using his
                          have hnx2 := HNX.out
                          rw [show (decide (is5 = 0)) = false from by simpa using his, if_neg (by simp)] at hnx2
                          have HN2 := hid' hnx2
                          clear hact2 his hnx2 HNX HACT HD
                          go_wp2_with fail
                          clear r0
                          go_quiet (first
                            | (go_at_call 14; exact quiet_same (HOV.out _ (by repeat (first | exact Dr.refl _ | apply Dr.step | apply Dr.stepd))) (by repeat (first | exact Dr.refl _ | apply Dr.step | apply Dr.stepd)))
                            | (go_at_call 13; exact quiet_same (HNO.out _ (by repeat (first | exact Dr.refl _ | apply Dr.step | apply Dr.stepd))) (by repeat (first | exact Dr.refl _ | apply Dr.step | apply Dr.stepd))))
                          all_goals
                            go_wp2_with fail
                            refine (HIS.out _ (HSf.out.bel (by first | exact bel_refl _ | exact bel_drewN (bel_refl _) _ | exact bel_drew (bel_refl _)))).mono ?_
                            rintro e w' ⟨rfl, rfl⟩
                            go_wp2
                            go_roundw
                            case rel => exact ⟨i5 + 1, by omega, by go_num, by rw [(Prod.mk.inj HN2.out).1], by rw [(Prod.mk.inj HN2.out).2], HSf.out.bel (by first | exact bel_refl _ | exact bel_drewN (bel_refl _) _ | exact bel_drew (bel_refl _))⟩
                            case measure => (simp only [intOf]; omega)
                    · obtain rfl : i5 = i := by omega
                      have hLK : treeLK keys outs2 = lkP keys outs2 i5 := by rw [HN.out]; rfl
                      have hLO : treeLO keys outs2 = loP keys outs2 i5 := by rw [HN.out]; rfl
                      have hLE := HSf.out.least
                      rw [hLK, hLO] at hLE
                      have HLE := hid' hLE
                      have HKA := hid' HK.out
                      generalize lkP keys outs2 i5 = LKZ at *
                      generalize loP keys outs2 i5 = LOZ at *
                      clear hLK hLO hLE
                      go_wp2_with fail
                      refine HLE.out.mono ?_
                      rintro e w' ⟨rfl, rfl⟩
                      go_wp2
                      go_roundw
                      case rel => exact ⟨j + 1, now2, _, _, _, by omega, by go_num, hnb.1, by have := hnb.2; push_cast; omega, HSf.out.drop, HKA.out⟩
                      case measure => (simp only [intOf]; omega)
                | false =>
                  have HKR := hid' (HK.out.read HSQ.out hov (by omega) (by omega) (by omega))
                  rw [hov] at HRD
                  clear hov
                  go_wp2_with fail
                  refine HRD.out.mono ?_
                  rintro e wy ⟨rfl, hSy⟩
                  have HSy := hid' hSy
                  clear hSy r0 c1 c2
                  go_wp2_with fail
                  refine (HSy.out.nowc).mono ?_
                  rintro e w' ⟨rfl, rfl⟩
                  have l0 : wy.cell? (adL.add q) = some (.int .i64 la) := by rw [HAL.out, addLit]; exact HSy.out.lastc HLQ.out
                  have lf : wy.frozen? (adL.add q) = false := by rw [HAL.out, addLit]; exact HSy.out.2.2.2.2.2.2.2.2.2.1.frozen q
                  have hP := HSy.out.putLast q now2
                  rw [show (⟨bl, q, none⟩ : Addr) = adL.add q by rw [HAL.out, addLit]] at hP
                  have HLV := hid' (hP.leave (q : Int) false)
                  rw [bSet_nat] at HLV
                  clear hP
                  go_wp2_with fail
                  refine HLV.out.mono ?_
                  rintro e wz ⟨rfl, hSz⟩
                  have HSz := hid' hSz
                  clear hSz l0 lf
                  go_wp2_with fail
                  go_loopw [19, 20, 134] (fun v19 v20 v134 wr => ∃ i5 : Nat, i5 ≤ i ∧ v134 = .int .i64 i5 ∧ v19 = .int .i64 (lkP keys (outs2.set q false) i5) ∧ v20 = .bool (loP keys (outs2.set q false) i5) ∧ SSt w wr gc lo bl g G bl now2 (wt : Int) keys (outs2.set q false) (st2.set q (iReadU is u now2 (wt : Int), iEnd is 0)) (last.set q now2) [(bx, 36, #[.int .u8 by_, .int .u8 who, .bool false]), (rb, 32, cur)]) (fun _ _ v134 _ => i - (intOf v134).toNat)
                  case atStart => exact ⟨0, Nat.zero_le _, rfl, rfl, rfl, HSz.out⟩
                  case round =>
                    obtain ⟨i5, hi5, rfl, rfl, rfl, hS⟩ := hrel
                    have HSf := hid' hS
                    clear hS
                    by_cases hlt4 : i5 < i
                    · obtain ⟨gi, hgi⟩ : ∃ gi, G[i5]? = some gi := ⟨_, List.getElem?_eq_getElem (by rw [HGL.out]; exact hlt4)⟩
                      obtain ⟨s, hs⟩ : ∃ s, ((st2.set q (iReadU is u now2 (wt : Int), iEnd is 0)))[i5]? = some s := ⟨_, List.getElem?_eq_getElem (by rw [← HSf.out.2.2.2.2.2.2.2.2.1.1, HGL.out]; exact hlt4)⟩
                      obtain ⟨u5, is5⟩ := s
                      have hll : ((last.set q now2)).length = i := by rw [← (HKR.out).1, ← HSf.out.2.2.2.2.2.2.2.2.1.1, HGL.out]
                      obtain ⟨la, hla⟩ : ∃ la, ((last.set q now2))[i5]? = some la := ⟨_, List.getElem?_eq_getElem (by rw [hll]; exact hlt4)⟩
                      obtain ⟨adk, x, eA, hx, hcx⟩ := (HRK.out.below HSf.out.1).at_ (j := i5) (by rw [← HN.out]; exact hlt4)
                      obtain ⟨hact, hinn⟩ := (HKR.out).act (Nat.le_of_eq hll) hs hla
                      have hnx := lk_next keys (outs2.set q false) i5 x hx
                      rw [hinn] at hnx
                      have HNX := hid' hnx
                      have HOV := hid' (fun W (hd : Dr wr W) => (HSf.out.bel hd.below).over hgi hs)
                      have HNO := hid' (fun W (hd : Dr wr W) => (HSf.out.bel hd.below).nowc)
                      have HIS := hid' (fun W (hS : SSt w W gc lo bl g G bl now2 (wt : Int) keys (outs2.set q false) (st2.set q (iReadU is u now2 (wt : Int), iEnd is 0)) (last.set q now2) [(bx, 36, #[.int .u8 by_, .int .u8 who, .bool false]), (rb, 32, cur)]) => hS.isc hgi hs)
                      have r0 : wr.cell? (adR.add i5) = some (.pointer (some ⟨gi, 0, none⟩)) := by rw [HAR.out, addLit]; exact (HSf.out.drop.e0.cell i5).trans (HCELL.out i5 gi hgi)
                      have l0 : wr.cell? (adL.add i5) = some (.int .i64 la) := by rw [HAL.out, addLit]; exact HSf.out.lastc hla
                      have hlb := ((HKR.out).2.2 i5 (u5, is5) la _ hs hla (List.getElem?_eq_getElem (by rw [(HKR.out).2.1, hll]; exact hlt4)))
                      have hla0 : 0 ≤ la := hlb.2.2.1
                      have hla1 : la ≤ now2 := hlb.2.2.2.1
                      obtain ⟨lw, hlw⟩ : ∃ lw, la + (wt : Int) = lw := ⟨_, rfl⟩
                      rw [hlw] at hact
                      have y1 : IntKind.i64.wrap lw = lw := by rw [IntKind.wrap_i64]; omega
                      subst eA
                      obtain ⟨lk, hlk⟩ : ∃ lk, lk = lkP keys (outs2.set q false) i5 := ⟨_, rfl⟩
                      obtain ⟨lo', hlo'⟩ : ∃ lo', lo' = loP keys (outs2.set q false) i5 := ⟨_, rfl⟩
                      rw [← hlk, ← hlo'] at HNX ⊢
                      obtain ⟨ov, hov⟩ : ∃ ov, ov = idleOver is5 := ⟨_, rfl⟩
                      rw [← hov] at HOV hact
                      obtain ⟨d, hd⟩ : ∃ d, d = decide (now2 < lw) := ⟨_, rfl⟩
                      have HD := hid' hd
                      rw [← hd] at hact
                      have HACT := hid' hact
                      clear hgi hs hll hla hx hinn hnx hlb hact hlk hlo' hov hd hla0 hla1
                      cases ov with
                      | true =>
                        have hact2 := HACT.out
                        simp only [Bool.not_true, Bool.false_and] at hact2
                        have his : ¬ is5 = 0 := by intro h; rw [h] at hact2; simp at hact2
                        have hisb : (is5 == 0) = false := by simpa using his
                        have hnx2 := HNX.out
                        rw [show (decide (is5 = 0)) = false from by simpa using his, if_neg (by simp)] at hnx2
                        have HN2 := hid' hnx2
                        clear hact2 his hnx2
                        go_wp2_with fail
                        clear r0
                        go_quiet ((go_at_call 14; exact quiet_same (HOV.out _ (by repeat (first | exact Dr.refl _ | apply Dr.step | apply Dr.stepd))) (by repeat (first | exact Dr.refl _ | apply Dr.step | apply Dr.stepd))))
                        all_goals
                          go_wp2_with fail
                          refine (HIS.out _ (HSf.out.bel (by first | exact bel_refl _ | exact bel_drewN (bel_refl _) _ | exact bel_drew (bel_refl _)))).mono ?_
                          rintro e w' ⟨rfl, rfl⟩
                          go_wp2
                          go_roundw
                          case rel => exact ⟨i5 + 1, by omega, by go_num, by rw [(Prod.mk.inj HN2.out).1], by rw [(Prod.mk.inj HN2.out).2], HSf.out.bel (by first | exact bel_refl _ | exact bel_drewN (bel_refl _) _ | exact bel_drew (bel_refl _))⟩
                          case measure => (simp only [intOf]; omega)
                      | false =>
                        have hact2 := HACT.out
                        simp only [Bool.not_false, Bool.true_and] at hact2
                        by_cases his : is5 = 0
                        · have hdt : decide (now2 < lw) = true := by rw [← HD.out, hact2]; simpa using his
                          have hnx2 := HNX.out
                          rw [show (decide (is5 = 0)) = true from by simpa using his] at hnx2
                          subst his
                          cases lo' with
                          | false =>
                            rw [if_pos ⟨rfl, .inl rfl⟩] at hnx2
                            have HN2 := hid' hnx2
                            clear hact2 hnx2 HNX HACT HD
                            go_wp2_with fail
                            clear r0
                            go_quiet (first
                              | (go_at_call 14; exact quiet_same (HOV.out _ (by repeat (first | exact Dr.refl _ | apply Dr.step | apply Dr.stepd))) (by repeat (first | exact Dr.refl _ | apply Dr.step | apply Dr.stepd)))
                              | (go_at_call 13; exact quiet_same (HNO.out _ (by repeat (first | exact Dr.refl _ | apply Dr.step | apply Dr.stepd))) (by repeat (first | exact Dr.refl _ | apply Dr.step | apply Dr.stepd))))
                            all_goals
                              go_wp2_with fail
                              refine (HIS.out _ (HSf.out.bel (by first | exact bel_refl _ | exact bel_drewN (bel_refl _) _ | exact bel_drew (bel_refl _)))).mono ?_
                              rintro e w' ⟨rfl, rfl⟩
                              go_wp2
                              go_roundw
                              case rel => exact ⟨i5 + 1, by omega, by go_num, by rw [(Prod.mk.inj HN2.out).1], by rw [(Prod.mk.inj HN2.out).2], HSf.out.bel (by first | exact bel_refl _ | exact bel_drewN (bel_refl _) _ | exact bel_drew (bel_refl _))⟩
                              case measure => (simp only [intOf]; omega)
                          | true =>
                            by_cases hxk : x < lk
                            · rw [if_pos ⟨rfl, .inr hxk⟩] at hnx2
                              have HN2 := hid' hnx2
                              clear hact2 hnx2 HNX HACT HD
                              go_wp2_with fail
                              clear r0
                              go_quiet (first
                                | (go_at_call 14; exact quiet_same (HOV.out _ (by repeat (first | exact Dr.refl _ | apply Dr.step | apply Dr.stepd))) (by repeat (first | exact Dr.refl _ | apply Dr.step | apply Dr.stepd)))
                                | (go_at_call 13; exact quiet_same (HNO.out _ (by repeat (first | exact Dr.refl _ | apply Dr.step | apply Dr.stepd))) (by repeat (first | exact Dr.refl _ | apply Dr.step | apply Dr.stepd))))
                              all_goals
                                go_wp2_with fail
                                refine (HIS.out _ (HSf.out.bel (by first | exact bel_refl _ | exact bel_drewN (bel_refl _) _ | exact bel_drew (bel_refl _)))).mono ?_
                                rintro e w' ⟨rfl, rfl⟩
                                go_wp2
                                go_roundw
                                case rel => exact ⟨i5 + 1, by omega, by go_num, by rw [(Prod.mk.inj HN2.out).1], by rw [(Prod.mk.inj HN2.out).2], HSf.out.bel (by first | exact bel_refl _ | exact bel_drewN (bel_refl _) _ | exact bel_drew (bel_refl _))⟩
                                case measure => (simp only [intOf]; omega)
                            · rw [if_neg (show ¬ (true = true ∧ (true = false ∨ x < lk)) from fun h => h.2.elim (fun e => by cases e) hxk)] at hnx2
                              have HN2 := hid' hnx2
                              clear hact2 hnx2 HNX HACT HD
                              go_wp2_with fail
                              clear r0
                              go_quiet (first
                                | (go_at_call 14; exact quiet_same (HOV.out _ (by repeat (first | exact Dr.refl _ | apply Dr.step | apply Dr.stepd))) (by repeat (first | exact Dr.refl _ | apply Dr.step | apply Dr.stepd)))
                                | (go_at_call 13; exact quiet_same (HNO.out _ (by repeat (first | exact Dr.refl _ | apply Dr.step | apply Dr.stepd))) (by repeat (first | exact Dr.refl _ | apply Dr.step | apply Dr.stepd))))
                              all_goals
                                go_wp2_with fail
                                refine (HIS.out _ (HSf.out.bel (by first | exact bel_refl _ | exact bel_drewN (bel_refl _) _ | exact bel_drew (bel_refl _)))).mono ?_
                                rintro e w' ⟨rfl, rfl⟩
                                go_wp2
                                go_roundw
                                case rel => exact ⟨i5 + 1, by omega, by go_num, by rw [(Prod.mk.inj HN2.out).1], by rw [(Prod.mk.inj HN2.out).2], HSf.out.bel (by first | exact bel_refl _ | exact bel_drewN (bel_refl _) _ | exact bel_drew (bel_refl _))⟩
                                case measure => (simp only [intOf]; omega)
                        · have hdt : decide (now2 < lw) = false := by rw [← HD.out, hact2]; simpa using his
                          have hisb : (is5 == 0) = false := by simpa using his
                          have hnx2 := HNX.out
                          rw [show (decide (is5 = 0)) = false from by simpa using his, if_neg (by simp)] at hnx2
                          have HN2 := hid' hnx2
                          clear hact2 his hnx2 HNX HACT HD
                          go_wp2_with fail
                          clear r0
                          go_quiet (first
                            | (go_at_call 14; exact quiet_same (HOV.out _ (by repeat (first | exact Dr.refl _ | apply Dr.step | apply Dr.stepd))) (by repeat (first | exact Dr.refl _ | apply Dr.step | apply Dr.stepd)))
                            | (go_at_call 13; exact quiet_same (HNO.out _ (by repeat (first | exact Dr.refl _ | apply Dr.step | apply Dr.stepd))) (by repeat (first | exact Dr.refl _ | apply Dr.step | apply Dr.stepd))))
                          all_goals
                            go_wp2_with fail
                            refine (HIS.out _ (HSf.out.bel (by first | exact bel_refl _ | exact bel_drewN (bel_refl _) _ | exact bel_drew (bel_refl _)))).mono ?_
                            rintro e w' ⟨rfl, rfl⟩
                            go_wp2
                            go_roundw
                            case rel => exact ⟨i5 + 1, by omega, by go_num, by rw [(Prod.mk.inj HN2.out).1], by rw [(Prod.mk.inj HN2.out).2], HSf.out.bel (by first | exact bel_refl _ | exact bel_drewN (bel_refl _) _ | exact bel_drew (bel_refl _))⟩
                            case measure => (simp only [intOf]; omega)
                    · obtain rfl : i5 = i := by omega
                      have hLK : treeLK keys (outs2.set q false) = lkP keys (outs2.set q false) i5 := by rw [HN.out]; rfl
                      have hLO : treeLO keys (outs2.set q false) = loP keys (outs2.set q false) i5 := by rw [HN.out]; rfl
                      have hLE := HSf.out.least
                      rw [hLK, hLO] at hLE
                      have HLE := hid' hLE
                      have HKA := hid' HKR.out
                      generalize lkP keys (outs2.set q false) i5 = LKZ at *
                      generalize loP keys (outs2.set q false) i5 = LOZ at *
                      clear hLK hLO hLE
                      go_wp2_with fail
                      refine HLE.out.mono ?_
                      rintro e w' ⟨rfl, rfl⟩
                      go_wp2
                      go_roundw
                      case rel => exact ⟨j + 1, now2, _, _, _, by omega, by go_num, hnb.1, by have := hnb.2; push_cast; omega, HSf.out.drop, HKA.out⟩
                      case measure => (simp only [intOf]; omega)
        · obtain rfl : j = m := by omega
          clear hS
          go_wp2
          go_ret
          exact ⟨rfl, HS.out.1⟩
end Go.Proofs.Ytgbcnlchpolcbaa
