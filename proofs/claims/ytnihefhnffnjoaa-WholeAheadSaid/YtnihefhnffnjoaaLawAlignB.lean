
/- The greater law of layer 18 (align), walked. No condition. -/
import Derived.Test.YtnihefhnffnjoaaLawAlign
namespace Go.Proofs.Ytnihefhnffnjoaa
open Go.RowKit
set_option linter.unusedVariables false

theorem law18_limit (A : Option Addr) (c : Nat) (L : List Int) (lim : Int) (w : World) (h : Rd w A (L.map (.int .i64))) (hn : L.length ≤ 1000) :
    Calls Try.prog 25 #[.slice A L.length c, .int .i64 lim] w fun e w' => ∃ v, e = .returned v ∧ w'.ownsRow w.heap.size 3 1 v (alHeld L lim).length ((alHeld L lim).map (.int .i64)) ∧ Below w.heap.size w w' := by
  have HR := hid' h
  clear h
  go_enter Try.func25, Try.ntmps25
  go_wp2
  go_loopw [5, 10] (fun v5 v10 wr => ∃ k : Nat, k ≤ L.length ∧ v10 = .int .i64 k ∧ Below w.heap.size w wr ∧
    wr.ownsRow w.heap.size 3 1 v5 (alHeldK L lim k).length ((alHeldK L lim k).map (.int .i64))) (fun _ v10 _ => L.length - (intOf v10).toNat)
  case atStart => exact ⟨0, Nat.zero_le _, rfl, bel_refl _, own_nil' _ _ _ _⟩
  case round =>
    obtain ⟨k, hk, rfl, hbw, hown⟩ := hrel
    have HO := hid' hown
    clear hown
    by_cases hlt : k < L.length
    · obtain ⟨ad, x, rfl, hx, hcx⟩ := Rd.at_ (HR.out.below hbw) hlt
      have HS := hid' (alHeldK_succ L lim k)
      have HL := hid' (alHeldK_len L lim k)
      have HPa := hid' (alPaused_at hx lim)
      generalize alHeldK L lim k = hs at *
      clear hx
      by_cases hp : lim < x
      · have HP := hid' (show alHeldK L lim (k + 1) = hs ++ [(k : Int)] by rw [HS.out, if_pos (by rw [HPa.out]; exact decide_eq_true hp)])
        have hlen : (hs.length + 1) * 8 ≤ 140737488355328 := by have := HL.out; omega
        have hsz := hbw.size
        go_wp2_with (at_builtin; go_loud (refine ap_cells w.heap.size rfl (.tmp 18) (.tmp 20) 42 3 (.int .i64 0) 1 8 rfl (by kernel_rfl) (by kernel_rfl) rfl (by decide) (by decide) _ hs.length (hs.map (.int .i64)) [(.int .i64 k)] rfl rfl rfl (by intro u hu; rw [List.mem_singleton] at hu; subst hu; rfl) HO.out hsz hlen ?_); intro v1 w1 hown hg hat)
        have hbl := bel_mod hbw (Mod.of_grown hg) (fun i hi e => by have := own_base' HO.out i e; omega)
        have HO2 := hid' hown
        clear hown hg hat
        go_roundw
        case rel => exact ⟨k + 1, by omega, by go_num, hbl, by rw [HP.out]; simpa using HO2.out⟩
        case measure => simp [intOf]; omega
      · have HP := hid' (show alHeldK L lim (k + 1) = hs by rw [HS.out, if_neg (by rw [HPa.out]; simpa using hp), List.append_nil])
        go_wp2
        go_roundw
        case rel => exact ⟨k + 1, by omega, by go_num, hbw, by rw [HP.out]; exact HO.out⟩
        case measure => simp [intOf]; omega
    · have hkl : k = L.length := by omega
      subst hkl
      go_wp2
      go_ret
      exact ⟨_, rfl, HO.out, hbw⟩
section
variable {w0 w : World} {g b bl : Nat} {drift glob : Int} {L M : List Int} {ex : Ex} {rs : Rs} {T : TypeId} {cs : Array Value}
theorem SAl.limitL (lim : Int) (c m : Nat) (h : SAl w0 w g b drift glob L ((bl, T, (M.map (Value.int .i64)).toArray) :: ex) rs) (hm : M.length = m) (hn : m ≤ 1000) :
    Calls Try.prog 25 #[.slice (some ⟨bl, 0, none⟩) m c, .int .i64 lim] w fun e w' => ∃ A c', e = .returned (.slice A (alHeld M lim).length c') ∧
      SAl w0 w' g b drift glob L ((bl, T, (M.map (Value.int .i64)).toArray) :: ex) ((A, alHeld M lim) :: rs) := by
  subst hm
  refine (law18_limit (some ⟨bl, 0, none⟩) c M lim w (Blk.rd h.e0 (by simp)) hn).mono ?_
  rintro e w' ⟨v, rfl, hown, hb⟩
  obtain ⟨A, c', rfl, -, -, hr, ha⟩ := own_addr hown
  have l1 := h.2.2.1.1.lt
  have l2 := h.2.2.1.2.1.lt
  exact ⟨A, c', rfl, (h.bel hb).addR hr (fun ad e => by have := ha ad e; omega)⟩
theorem SAl.setE {v : Value} {i : Nat} (h : SAl w0 w g b drift glob L ((bl, T, cs) :: ex) []) (hx : ∀ x ∈ ex, x.1 ≠ bl) (hk : w0.heap.size ≤ bl) :
    SAl w0 (w.setCell ⟨bl, i, none⟩ v) g b drift glob L ((bl, T, cs.setIfInBounds i v) :: ex) [] := by
  obtain ⟨h1, h2, h3, h5, h6, h7⟩ := h
  have hm : Mod (fun k => k = bl) w (w.setCell ⟨bl, i, none⟩ v) := (Mod.refl (fun k => k = bl) w).setCell (p := ⟨bl, i, none⟩) (fun _ => rfl) _
  have h0 := h5 _ (List.mem_cons_self ..)
  have hn := h0.2
  simp only at hn
  refine ⟨bel_mod h1 hm (by intro i hi; omega), h2, h3.mod hm (by omega) (by omega), fun x hx' => ?_, fun r hr => (by cases hr), h7⟩
  rcases List.mem_cons.1 hx' with rfl | hx'
  · exact ⟨h0.1.set i v, hn⟩
  · have := h5 x (List.mem_cons_of_mem _ hx')
    exact ⟨this.1.mod hm (hx x hx'), this.2⟩
theorem SAl.e1 {k : Nat} {T' : TypeId} {cs' : Array Value} (h : SAl w0 w g b drift glob L ((bl, T, cs) :: (k, T', cs') :: ex) rs) : Blk w k T' cs' := (h.2.2.2.1 _ (List.mem_cons_of_mem _ (List.mem_cons_self ..))).1
theorem SAl.dropE {k : Nat} {T' : TypeId} {cs' : Array Value} (h : SAl w0 w g b drift glob L ((bl, T, cs) :: (k, T', cs') :: ex) rs) : SAl w0 w g b drift glob L ((bl, T, cs) :: ex) rs := by
  obtain ⟨h1, h2, h3, h5, h6, h7⟩ := h
  refine ⟨h1, h2, h3, fun x hx => h5 x ?_, h6, h7⟩
  rcases List.mem_cons.1 hx with rfl | hx
  · exact List.mem_cons_self ..
  · exact List.mem_cons_of_mem _ (List.mem_cons_of_mem _ hx)
theorem SAl.castE {cs' : Array Value} (h : SAl w0 w g b drift glob L ((bl, T, cs) :: ex) rs) (e : cs = cs') : SAl w0 w g b drift glob L ((bl, T, cs') :: ex) rs := e ▸ h
theorem SAl.addE2 (h : SAl w0 w g b drift glob L ((bl, T, cs) :: ex) rs) {k : Nat} {T' : TypeId} {cs' : Array Value} (hb : Blk w k T' cs') (hn : k ≠ g ∧ k ≠ b) : SAl w0 w g b drift glob L ((bl, T, cs) :: (k, T', cs') :: ex) rs := by
  obtain ⟨h1, h2, h3, h5, h6, h7⟩ := h
  refine ⟨h1, h2, h3, fun x hx => ?_, h6, h7⟩
  rcases List.mem_cons.1 hx with rfl | hx
  · exact h5 _ (List.mem_cons_self ..)
  · rcases List.mem_cons.1 hx with rfl | hx
    · exact ⟨hb, by show ¬ (k = g ∨ k = b); omega⟩
    · exact h5 x (List.mem_cons_of_mem _ hx)
end
def RAct18 (w : World) (cs : List Value) (x : Bool × Int × Int) : Prop := cs.length = 3 ∧ RBool w ((cs.drop 0).take 1) x.1 ∧ RInt .i64 w ((cs.drop 1).take 1) x.2.1 ∧ RInt .i64 w ((cs.drop 2).take 1) x.2.2
theorem RAct18.cells {w : World} {cs : List Value} {x : Bool × Int × Int} (h : RAct18 w cs x) : cs = [.bool x.1, .int .i64 x.2.1, .int .i64 x.2.2] ∧ I64 x.2.1 ∧ I64 x.2.2 := by
  obtain ⟨hl, h0, ⟨h1, w1⟩, ⟨h2, w2⟩⟩ := h
  match cs, hl with
  | [a, b, c], _ =>
    unfold RBool at h0
    simp at h0 h1 h2
    subst h0 h1 h2
    exact ⟨rfl, I64.of_wf w1, I64.of_wf w2⟩
def fAct18 (x : Bool × Int × Int) : List Value := [.bool x.1, .int .i64 x.2.1, .int .i64 x.2.2]

set_option maxRecDepth 100000 in
set_option maxHeartbeats 4000000 in
theorem alignDoes (drift n : Int) (A : Option Addr) (cp : Nat) (l : List (Bool × Int × Int)) (w : World) (hd : (Lit.int .i64 drift).wf = true) (hnn : (Lit.int .i64 n).wf = true)
    (hr : ∀ j x, l[j]? = some x → ∃ ad row, A = some ad ∧ RAct18 w row x ∧ row.length = 3 ∧ ∀ i u, row[i]? = some u → w.cell? ((ad.add (j * 3)).add i) = some u) (hn : l.length ≤ maxLen) :
    Calls Try.prog 5 #[.int .i64 drift, .int .i64 n, .slice A l.length cp] w fun e w' => e = .returned (.bool true) ∧ Below w.heap.size w w' := by
  have hn' : l.length ≤ 9223372036854775807 := hn
  have hdI := I64.of_wf hd
  have HR := hid' (show RdS w A 3 fAct18 l from fun j x hj => by
    obtain ⟨ad, row, e, ha, hl, hc⟩ := hr j x hj
    obtain ⟨rfl, _, _⟩ := ha.cells
    exact ⟨ad, e, rfl, hc⟩)
  have HL := hid' (show ∀ (j : Nat) (x : Bool × Int × Int), l[j]? = some x → I64 x.2.1 ∧ I64 x.2.2 from fun j x hj => by
    obtain ⟨ad, row, e, ha, hl, hc⟩ := hr j x hj
    exact ha.cells.2)
  clear hr hd hnn hn
  go_enter Try.func5, Try.ntmps5
  go_wp2_with fail
  refine (law18_speaks w).mono ?_
  rintro e w1 ⟨rfl, hB⟩
  by_cases hd0 : drift < 0
  · go_wp2
    go_ret
    exact ⟨rfl, hB⟩
  by_cases hn0 : 100 < n
  · have hd1 : decide (drift < 0) = false := decide_eq_false hd0
    go_wp2
    go_ret
    exact ⟨rfl, hB⟩
  by_cases hl0 : 100 < l.length
  · have hd1 : decide (drift < 0) = false := decide_eq_false hd0
    have hn1 : decide (100 < n) = false := decide_eq_false hn0
    go_wp2
    go_ret
    exact ⟨rfl, hB⟩
  have HR1 := hid' (HR.out.below hB)
  have HB := hid' hB
  clear HR hB
  go_wp2_with fail
  refine (SAl.new_ (w0 := w1) n (bel_refl _) hdI (by omega)).mono ?_
  rintro e w2 ⟨g, b, rfl, hS⟩
  obtain ⟨m, hm⟩ : ∃ m : Nat, max n 0 = (m : Int) := ⟨n.toNat, by omega⟩
  rw [show n.toNat = m by omega] at hS
  have hm1 : m ≤ 1000 := by omega
  have hmk := mk1_run (P := Try.prog) 42 3 (.int .i64 0) 8 Try.underlying42 (by kernel_rfl) rfl m (by omega) (by omega)
  have hS2 := (hS.bel (bel_alloc (bel_refl w2) (.cells (madeCells #[Value.int .i64 0] m) 3))).addE (BlkL.made' (f := Value.int .i64) w2 3 0 m) (by have := hS.2.2.1.1.lt; have := hS.2.2.1.2.1.lt; omega)
  have HS2 := hid' hS2
  have hblk := hS.below.size
  clear hS hS2
  go_wp2
  clear hmk
  generalize hW : w2.alloc (.cells (madeCells #[Value.int .i64 0] m) 3) = w3 at *
  generalize hbl : w2.heap.size = bl at *
  clear hW hbl
  go_loopw [42] (fun v42 wr => ∃ k : Nat, k ≤ m ∧ v42 = .int .i64 k ∧ SAl w1 wr g b drift NEV (List.replicate m NEV) [(bl, 3, ((List.replicate k NEV ++ List.replicate (m - k) 0).map (Value.int .i64)).toArray)] []) (fun v42 _ => m - (intOf v42).toNat)
  case atStart => exact ⟨0, Nat.zero_le _, rfl, by simpa using HS2.out⟩
  case round =>
    obtain ⟨k, hk, rfl, hS⟩ := hrel
    have HS := hid' hS
    by_cases hlt : k < m
    · have hc := BlkL.cell (f := Value.int .i64) hS.e0 (fill_get NEV 0 hlt)
      have hf := hS.e0.frozen k
      clear hS
      go_wp2
      go_roundw
      case rel =>
        refine ⟨k + 1, by omega, by go_num, ?_⟩
        rw [← fill_set NEV 0 hlt]
        refine (HS.out.setE (v := .int .i64 (-9223372036854775808)) (i := k) (by simp) hblk).castE ?_
        rw [List.setIfInBounds_toArray, List.map_set]; rfl
      case measure => simp [intOf]; omega
    · have hkm : k = m := by omega
      subst hkm
      have HS3 := hid' (show SAl w1 wr g b drift NEV (List.replicate k NEV) [(bl, 3, ((List.replicate k NEV).map (Value.int .i64)).toArray)] [] by
        have := HS.out; rwa [Nat.sub_self, List.replicate_zero, List.append_nil] at this)
      have hnI : I64 NEV := I64.nev
      clear hS HS HS2
      go_wp2
      go_loopw [10, 51] (fun v10 v51 wr => ∃ (j : Nat) (glob : Int) (L : List Int), j ≤ l.length ∧ v51 = .int .i64 j ∧ v10 = .int .i64 glob ∧ L.length = k ∧ SAl w1 wr g b drift glob L [(bl, 3, (L.map (Value.int .i64)).toArray)] []) (fun _ v51 _ => l.length - (intOf v51).toNat)
      case atStart => exact ⟨0, NEV, List.replicate k NEV, by omega, rfl, rfl, by simp, HS3.out⟩
      case round =>
        obtain ⟨j, glob, L, hj, rfl, rfl, hLM, hS⟩ := hrel
        have HLM := hid' hLM
        clear hLM
        by_cases hlt : j < l.length
        · obtain ⟨x, hx⟩ : ∃ x, l[j]? = some x := ⟨_, List.getElem?_eq_getElem hlt⟩
          obtain ⟨ad, rfl, -, hc⟩ := HR1.out.below hS.below j x hx
          obtain ⟨hxI, hxI2⟩ := HL.out j x hx
          obtain ⟨all, xi, xn⟩ := x
          dsimp only at hxI hxI2
          have hc0 : wr.cell? (ad.add (j * 3)) = some (.bool all) := hc 0 _ rfl
          have hc1 : wr.cell? ⟨(ad.add (j * 3)).block, (ad.add (j * 3)).off + 1, none⟩ = some (.int .i64 xi) := hc 1 _ rfl
          have hc2 : wr.cell? ⟨(ad.add (j * 3)).block, (ad.add (j * 3)).off + 2, none⟩ = some (.int .i64 xn) := hc 2 _ rfl
          clear hc hx
          have hS1 := (hS.bel (bel_alloc (bel_refl wr) (.cells #[.bool all, .int .i64 xi, .int .i64 xn] 44))).addE2 (Blk.new_ wr 44 #[.bool all, .int .i64 xi, .int .i64 xn]) (by have := hS.2.2.1.1.lt; have := hS.2.2.1.2.1.lt; omega)
          have hgI : I64 glob := hS.2.2.1.2.2.2
          have hnb : wr.heap.size ≠ bl := by have := hS.e0.lt; omega
          clear hS
          cases all
          · by_cases hneg : xi < 0
            · have HE := hid' (show decide (0 ≤ xi ∧ xi < (L.length : Int)) = false from decide_eq_false (by omega))
              have HSet := hid' (show alSet L xi xn = L by unfold alSet; rw [if_neg (by omega)])
              go_wp2_with fail
              refine (SAl.local_ _ _ hS1 hxI2).mono ?_
              rintro e w5 ⟨rfl, hS5⟩
              generalize wr.heap.size = ba at *
              rw [HSet.out] at hS5
              rw [HE.out]
              clear hS1 hc0 hc1 hc2
              have t1 : alPaused L (satAdd glob drift) (-1) = false := decide_eq_false (by omega)
              have t2 : alPaused L (satAdd glob drift) (k : Int) = false := decide_eq_false (by have := HLM.out; omega)
              have t3 : (alHeld L (satAdd glob drift)).length ≤ 9223372036854775807 := by
                have := alHeldK_len L (satAdd glob drift) (L).length
                have h2 := HLM.out
                change (alHeld L (satAdd glob drift)).length ≤ (L).length at this
                omega
              go_wp2_with ((first
                | (go_at_call 29; refine (SAl.limit (by assumption)).mono ?_; rintro e w' ⟨rfl, hS⟩)
                | (go_at_call 31; refine (SAl.paused _ (by assumption)).mono ?_; rintro e w' ⟨rfl, hS⟩)
                | (go_at_call 28; refine (SAl.local_ _ _ (by assumption) ?_).mono ?_; (first | assumption | (unfold I64; omega)); rintro e w' ⟨rfl, hS⟩)
                | (go_at_call 30; refine (SAl.held (by assumption)).mono ?_; rintro e w' ⟨A, c, rfl, hS⟩)
                | (go_at_call 27; refine (SAl.global _ (by assumption) ?_).mono ?_; (first | assumption | (unfold I64; omega)); rintro e w' ⟨A, c, rfl, hS⟩)
                | (go_at_call 19; refine (ref_Add _ _ _ ?_ ?_).mono ?_; assumption; assumption; rintro e w' ⟨rfl, rfl⟩)
                | (go_at_call 25; refine (SAl.limitL _ _ _ (by assumption) HLM.out hm1).mono ?_; rintro e w' ⟨A, c, rfl, hS⟩)
                | (go_at_call 26; refine (SAl.same (by assumption) ?_ ?_).mono ?_; assumption; assumption; rintro e w' ⟨rfl, hS⟩)))
              have HS8 := hid' (SAl.norow hS)
              clear hS
              go_loopw [145] (fun v145 wr => ∃ i : Nat, i ≤ k ∧ v145 = .int .i64 i ∧ SAl w1 wr g b drift glob L [(bl, 3, ((L).map (Value.int .i64)).toArray), (ba, 44, #[.bool false, .int .i64 xi, .int .i64 xn])] []) (fun v145 _ => k - (intOf v145).toNat)
              case atStart => exact ⟨0, Nat.zero_le _, rfl, HS8.out⟩
              case round =>
                obtain ⟨i, hi, rfl, hS9⟩ := hrel
                by_cases hlt3 : i < k
                · obtain ⟨y, hy⟩ : ∃ y, (L)[i]? = some y := ⟨_, List.getElem?_eq_getElem (by have := HLM.out; omega)⟩
                  have hcy := BlkL.cell (f := Value.int .i64) hS9.e0 hy
                  have hpa := alPaused_at hy (satAdd glob drift)
                  clear hy
                  go_wp2_with ((first
                    | (go_at_call 29; refine (SAl.limit (by assumption)).mono ?_; rintro e w' ⟨rfl, hS⟩)
                    | (go_at_call 31; refine (SAl.paused _ (by assumption)).mono ?_; rintro e w' ⟨rfl, hS⟩)
                    | (go_at_call 28; refine (SAl.local_ _ _ (by assumption) ?_).mono ?_; (first | assumption | (unfold I64; omega)); rintro e w' ⟨rfl, hS⟩)
                    | (go_at_call 30; refine (SAl.held (by assumption)).mono ?_; rintro e w' ⟨A, c, rfl, hS⟩)
                    | (go_at_call 27; refine (SAl.global _ (by assumption) ?_).mono ?_; (first | assumption | (unfold I64; omega)); rintro e w' ⟨A, c, rfl, hS⟩)
                    | (go_at_call 19; refine (ref_Add _ _ _ ?_ ?_).mono ?_; assumption; assumption; rintro e w' ⟨rfl, rfl⟩)
                    | (go_at_call 25; refine (SAl.limitL _ _ _ (by assumption) HLM.out hm1).mono ?_; rintro e w' ⟨A, c, rfl, hS⟩)
                    | (go_at_call 26; refine (SAl.same (by assumption) ?_ ?_).mono ?_; assumption; assumption; rintro e w' ⟨rfl, hS⟩)))
                  go_roundw
                  case rel => exact ⟨i + 1, by omega, by go_num, hS⟩
                  case measure => simp [intOf]; omega
                · go_wp2
                  go_roundw
                  case rel => exact ⟨j + 1, glob, L, by omega, by go_num, rfl, HLM.out, hS9.dropE⟩
                  case measure => simp [intOf]; omega
            · obtain ⟨q, rfl⟩ := Int.eq_ofNat_of_zero_le (show 0 ≤ xi by omega)
              have hq0 : (0 : Int) ≤ (q : Int) := by omega
              clear hneg
              by_cases hqk' : q < k
              · have hqk : (q : Int) < (k : Int) := by omega
                have HE := hid' (show decide (0 ≤ (q : Int) ∧ (q : Int) < (L.length : Int)) = true from decide_eq_true (by have := HLM.out; omega))
                have HSet := hid' (show alSet L (q : Int) xn = L.set q xn by unfold alSet; rw [if_pos hq0]; simp)
                obtain ⟨y, hy⟩ : ∃ y, L[q]? = some y := ⟨_, List.getElem?_eq_getElem (by have := HLM.out; omega)⟩
                go_wp2_with fail
                refine (SAl.local_ _ _ hS1 hxI2).mono ?_
                rintro e w5 ⟨rfl, hS5⟩
                generalize wr.heap.size = ba at *
                rw [HSet.out] at hS5
                rw [HE.out]
                have hcy := BlkL.cell (f := Value.int .i64) hS5.e0 hy
                have hfy := hS5.e0.frozen q
                have hx1 : w5.cell? ⟨ba, 1, none⟩ = some (.int .i64 (q : Int)) := by simpa using hS5.e1.cell 1
                have hx2 : w5.cell? ⟨ba, 2, none⟩ = some (.int .i64 xn) := by simpa using hS5.e1.cell 2
                have hS6 := ((hS5.setE (v := .int .i64 xn) (i := q) (by intro x hx; rw [List.mem_singleton] at hx; subst hx; exact hnb) hblk).castE (cs' := ((L.set q xn).map (Value.int .i64)).toArray) (by rw [List.setIfInBounds_toArray, List.map_set]))
                have HL9 := hid' (show (L.set q xn).length = k by rw [List.length_set]; exact HLM.out)
                clear HLM hS1 hS5 hc0 hc1 hc2 hy
                have HLM := HL9
                have t1 : alPaused (L.set q xn) (satAdd glob drift) (-1) = false := decide_eq_false (by omega)
                have t2 : alPaused (L.set q xn) (satAdd glob drift) (k : Int) = false := decide_eq_false (by have := HLM.out; omega)
                have t3 : (alHeld (L.set q xn) (satAdd glob drift)).length ≤ 9223372036854775807 := by
                  have := alHeldK_len (L.set q xn) (satAdd glob drift) ((L.set q xn)).length
                  have h2 := HLM.out
                  change (alHeld (L.set q xn) (satAdd glob drift)).length ≤ ((L.set q xn)).length at this
                  omega
                go_wp2_with ((first
                  | (go_at_call 29; refine (SAl.limit (by assumption)).mono ?_; rintro e w' ⟨rfl, hS⟩)
                  | (go_at_call 31; refine (SAl.paused _ (by assumption)).mono ?_; rintro e w' ⟨rfl, hS⟩)
                  | (go_at_call 28; refine (SAl.local_ _ _ (by assumption) ?_).mono ?_; (first | assumption | (unfold I64; omega)); rintro e w' ⟨rfl, hS⟩)
                  | (go_at_call 30; refine (SAl.held (by assumption)).mono ?_; rintro e w' ⟨A, c, rfl, hS⟩)
                  | (go_at_call 27; refine (SAl.global _ (by assumption) ?_).mono ?_; (first | assumption | (unfold I64; omega)); rintro e w' ⟨A, c, rfl, hS⟩)
                  | (go_at_call 19; refine (ref_Add _ _ _ ?_ ?_).mono ?_; assumption; assumption; rintro e w' ⟨rfl, rfl⟩)
                  | (go_at_call 25; refine (SAl.limitL _ _ _ (by assumption) HLM.out hm1).mono ?_; rintro e w' ⟨A, c, rfl, hS⟩)
                  | (go_at_call 26; refine (SAl.same (by assumption) ?_ ?_).mono ?_; assumption; assumption; rintro e w' ⟨rfl, hS⟩)))
                have HS8 := hid' (SAl.norow hS)
                clear hS
                go_loopw [145] (fun v145 wr => ∃ i : Nat, i ≤ k ∧ v145 = .int .i64 i ∧ SAl w1 wr g b drift glob (L.set q xn) [(bl, 3, (((L.set q xn)).map (Value.int .i64)).toArray), (ba, 44, #[.bool false, .int .i64 (q : Int), .int .i64 xn])] []) (fun v145 _ => k - (intOf v145).toNat)
                case atStart => exact ⟨0, Nat.zero_le _, rfl, HS8.out⟩
                case round =>
                  obtain ⟨i, hi, rfl, hS9⟩ := hrel
                  by_cases hlt3 : i < k
                  · obtain ⟨y, hy⟩ : ∃ y, ((L.set q xn))[i]? = some y := ⟨_, List.getElem?_eq_getElem (by have := HLM.out; omega)⟩
                    have hcy := BlkL.cell (f := Value.int .i64) hS9.e0 hy
                    have hpa := alPaused_at hy (satAdd glob drift)
                    clear hy
                    go_wp2_with ((first
                      | (go_at_call 29; refine (SAl.limit (by assumption)).mono ?_; rintro e w' ⟨rfl, hS⟩)
                      | (go_at_call 31; refine (SAl.paused _ (by assumption)).mono ?_; rintro e w' ⟨rfl, hS⟩)
                      | (go_at_call 28; refine (SAl.local_ _ _ (by assumption) ?_).mono ?_; (first | assumption | (unfold I64; omega)); rintro e w' ⟨rfl, hS⟩)
                      | (go_at_call 30; refine (SAl.held (by assumption)).mono ?_; rintro e w' ⟨A, c, rfl, hS⟩)
                      | (go_at_call 27; refine (SAl.global _ (by assumption) ?_).mono ?_; (first | assumption | (unfold I64; omega)); rintro e w' ⟨A, c, rfl, hS⟩)
                      | (go_at_call 19; refine (ref_Add _ _ _ ?_ ?_).mono ?_; assumption; assumption; rintro e w' ⟨rfl, rfl⟩)
                      | (go_at_call 25; refine (SAl.limitL _ _ _ (by assumption) HLM.out hm1).mono ?_; rintro e w' ⟨A, c, rfl, hS⟩)
                      | (go_at_call 26; refine (SAl.same (by assumption) ?_ ?_).mono ?_; assumption; assumption; rintro e w' ⟨rfl, hS⟩)))
                    go_roundw
                    case rel => exact ⟨i + 1, by omega, by go_num, hS⟩
                    case measure => simp [intOf]; omega
                  · go_wp2
                    go_roundw
                    case rel => exact ⟨j + 1, glob, (L.set q xn), by omega, by go_num, rfl, HLM.out, hS9.dropE⟩
                    case measure => simp [intOf]; omega
              · have hqk : decide (q < k) = false := decide_eq_false hqk'
                have HE := hid' (show decide (0 ≤ (q : Int) ∧ (q : Int) < (L.length : Int)) = false from decide_eq_false (by have := HLM.out; omega))
                have HSet := hid' (show alSet L (q : Int) xn = L by unfold alSet; rw [if_pos hq0]; exact List.set_eq_of_length_le (by have := HLM.out; simp; omega))
                clear hqk'
                go_wp2_with fail
                refine (SAl.local_ _ _ hS1 hxI2).mono ?_
                rintro e w5 ⟨rfl, hS5⟩
                generalize wr.heap.size = ba at *
                rw [HSet.out] at hS5
                rw [HE.out]
                clear hS1 hc0 hc1 hc2
                have t1 : alPaused L (satAdd glob drift) (-1) = false := decide_eq_false (by omega)
                have t2 : alPaused L (satAdd glob drift) (k : Int) = false := decide_eq_false (by have := HLM.out; omega)
                have t3 : (alHeld L (satAdd glob drift)).length ≤ 9223372036854775807 := by
                  have := alHeldK_len L (satAdd glob drift) (L).length
                  have h2 := HLM.out
                  change (alHeld L (satAdd glob drift)).length ≤ (L).length at this
                  omega
                go_wp2_with ((first
                  | (go_at_call 29; refine (SAl.limit (by assumption)).mono ?_; rintro e w' ⟨rfl, hS⟩)
                  | (go_at_call 31; refine (SAl.paused _ (by assumption)).mono ?_; rintro e w' ⟨rfl, hS⟩)
                  | (go_at_call 28; refine (SAl.local_ _ _ (by assumption) ?_).mono ?_; (first | assumption | (unfold I64; omega)); rintro e w' ⟨rfl, hS⟩)
                  | (go_at_call 30; refine (SAl.held (by assumption)).mono ?_; rintro e w' ⟨A, c, rfl, hS⟩)
                  | (go_at_call 27; refine (SAl.global _ (by assumption) ?_).mono ?_; (first | assumption | (unfold I64; omega)); rintro e w' ⟨A, c, rfl, hS⟩)
                  | (go_at_call 19; refine (ref_Add _ _ _ ?_ ?_).mono ?_; assumption; assumption; rintro e w' ⟨rfl, rfl⟩)
                  | (go_at_call 25; refine (SAl.limitL _ _ _ (by assumption) HLM.out hm1).mono ?_; rintro e w' ⟨A, c, rfl, hS⟩)
                  | (go_at_call 26; refine (SAl.same (by assumption) ?_ ?_).mono ?_; assumption; assumption; rintro e w' ⟨rfl, hS⟩)))
                have HS8 := hid' (SAl.norow hS)
                clear hS
                go_loopw [145] (fun v145 wr => ∃ i : Nat, i ≤ k ∧ v145 = .int .i64 i ∧ SAl w1 wr g b drift glob L [(bl, 3, ((L).map (Value.int .i64)).toArray), (ba, 44, #[.bool false, .int .i64 (q : Int), .int .i64 xn])] []) (fun v145 _ => k - (intOf v145).toNat)
                case atStart => exact ⟨0, Nat.zero_le _, rfl, HS8.out⟩
                case round =>
                  obtain ⟨i, hi, rfl, hS9⟩ := hrel
                  by_cases hlt3 : i < k
                  · obtain ⟨y, hy⟩ : ∃ y, (L)[i]? = some y := ⟨_, List.getElem?_eq_getElem (by have := HLM.out; omega)⟩
                    have hcy := BlkL.cell (f := Value.int .i64) hS9.e0 hy
                    have hpa := alPaused_at hy (satAdd glob drift)
                    clear hy
                    go_wp2_with ((first
                      | (go_at_call 29; refine (SAl.limit (by assumption)).mono ?_; rintro e w' ⟨rfl, hS⟩)
                      | (go_at_call 31; refine (SAl.paused _ (by assumption)).mono ?_; rintro e w' ⟨rfl, hS⟩)
                      | (go_at_call 28; refine (SAl.local_ _ _ (by assumption) ?_).mono ?_; (first | assumption | (unfold I64; omega)); rintro e w' ⟨rfl, hS⟩)
                      | (go_at_call 30; refine (SAl.held (by assumption)).mono ?_; rintro e w' ⟨A, c, rfl, hS⟩)
                      | (go_at_call 27; refine (SAl.global _ (by assumption) ?_).mono ?_; (first | assumption | (unfold I64; omega)); rintro e w' ⟨A, c, rfl, hS⟩)
                      | (go_at_call 19; refine (ref_Add _ _ _ ?_ ?_).mono ?_; assumption; assumption; rintro e w' ⟨rfl, rfl⟩)
                      | (go_at_call 25; refine (SAl.limitL _ _ _ (by assumption) HLM.out hm1).mono ?_; rintro e w' ⟨A, c, rfl, hS⟩)
                      | (go_at_call 26; refine (SAl.same (by assumption) ?_ ?_).mono ?_; assumption; assumption; rintro e w' ⟨rfl, hS⟩)))
                    go_roundw
                    case rel => exact ⟨i + 1, by omega, by go_num, hS⟩
                    case measure => simp [intOf]; omega
                  · go_wp2
                    go_roundw
                    case rel => exact ⟨j + 1, glob, L, by omega, by go_num, rfl, HLM.out, hS9.dropE⟩
                    case measure => simp [intOf]; omega
          · have HS1 := hid' hS1
            clear hS1
            go_wp2_with (go_at_call 19; refine (ref_Add _ _ _ ?_ ?_).mono ?_; assumption; assumption; rintro e w' ⟨rfl, rfl⟩)
            refine (SAl.limitL _ _ _ HS1.out HLM.out hm1).mono ?_
            rintro e w5 ⟨A5, c5, rfl, hS5⟩
            generalize wr.heap.size = ba at *
            have hx2 : w5.cell? ⟨ba, 2, none⟩ = some (.int .i64 xn) := by simpa using hS5.e1.cell 2
            have HS5 := hid' hS5
            have HAM := hid' (alHeld_mem L (satAdd glob drift))
            have HG := hid' (show (alHeld L (satAdd glob drift)).filter (fun i => !alPaused L (satAdd xn drift) i) = alGl L glob xn drift from rfl)
            have hwl := alHeldK_len L (satAdd glob drift) L.length
            change (alHeld L (satAdd glob drift)).length ≤ L.length at hwl
            rw [HLM.out] at hwl
            clear HS1 hS5 hc0 hc1 hc2
            generalize alHeld L (satAdd glob drift) = was at *
            go_wp2
            go_loopw [14, 66] (fun v14 v66 wr => ∃ i : Nat, i ≤ was.length ∧ v66 = .int .i64 i ∧ Below w5.heap.size w5 wr ∧
              wr.ownsRow w5.heap.size 3 1 v14 (alFreeK L was (satAdd xn drift) i).length ((alFreeK L was (satAdd xn drift) i).map (.int .i64))) (fun _ v66 _ => was.length - (intOf v66).toNat)
            case atStart => exact ⟨0, Nat.zero_le _, rfl, bel_refl _, own_nil' _ _ _ _⟩
            case round =>
              obtain ⟨i, hi, rfl, hbw, hown⟩ := hrel
              have HO := hid' hown
              clear hown
              by_cases hlt2 : i < was.length
              · obtain ⟨ad2, x, rfl, hx, hcx⟩ := Rd.at_ (HS5.out.row.below hbw) hlt2
                obtain ⟨q, rfl, hq⟩ := HAM.out x (mem_of_get hx)
                obtain ⟨y, hy⟩ : ∃ y, L[q]? = some y := ⟨_, List.getElem?_eq_getElem hq⟩
                have hcy := BlkL.cell (f := Value.int .i64) (HS5.out.bel hbw).e0 hy
                have HPa := hid' (alPaused_at hy (satAdd xn drift))
                have HS := hid' (show alFreeK L was (satAdd xn drift) (i + 1) = alFreeK L was (satAdd xn drift) i ++ [(q : Int)].filter (fun i => !alPaused L (satAdd xn drift) i) by
                  unfold alFreeK; rw [take_snoc' hx, List.filter_append])
                have HL2 := hid' (show (alFreeK L was (satAdd xn drift) i).length ≤ i from Nat.le_trans (List.length_filter_le _ _) (List.length_take_le _ _))
                generalize alFreeK L was (satAdd xn drift) i = hs at *
                have hq0 : (0 : Int) ≤ (q : Int) := by omega
                have hqk : (q : Int) < (k : Int) := by have := HLM.out; omega
                clear hx hy hx2
                by_cases hp : satAdd xn drift < y
                · have HP := hid' (show alFreeK L was (satAdd xn drift) (i + 1) = hs by rw [HS.out]; simp [HPa.out, hp])
                  go_wp2
                  go_quiet ((go_at_call 19; exact quiet_same (ref_Add xn drift _ hxI2 hdI) (by repeat (first | exact Dr.refl _ | apply Dr.step | apply Dr.stepd))))
                  go_wp2
                  go_roundw
                  case rel => exact ⟨i + 1, by omega, by go_num, by first | exact bel_drewN hbw _ | exact bel_drew hbw, by rw [HP.out]; exact HO.out⟩
                  case measure => simp [intOf]; omega
                · have HP := hid' (show alFreeK L was (satAdd xn drift) (i + 1) = hs ++ [(q : Int)] by rw [HS.out]; simp [HPa.out, hp])
                  have hlen : (hs.length + 1) * 8 ≤ 140737488355328 := by have := HL2.out; omega
                  have hsz := hbw.size
                  go_wp2
                  go_quiet ((go_at_call 19; exact quiet_same (ref_Add xn drift _ hxI2 hdI) (by repeat (first | exact Dr.refl _ | apply Dr.step | apply Dr.stepd))))
                  have hbw' : Below w5.heap.size w5 (wr.drewN nq) := bel_drewN hbw _
                  have HO' := hid' (show (wr.drewN nq).ownsRow w5.heap.size 3 1 _ _ _ from HO.out)
                  have hsz' := hbw'.size
                  clear hcx hcy HO
                  go_wp2_with (at_builtin; go_loud (refine ap_cells w5.heap.size rfl (.tmp 78) (.tmp 80) 42 3 (.int .i64 0) 1 8 rfl (by kernel_rfl) (by kernel_rfl) rfl (by decide) (by decide) _ hs.length (hs.map (.int .i64)) [(.int .i64 q)] rfl rfl rfl (by intro u hu; rw [List.mem_singleton] at hu; subst hu; rfl) HO'.out hsz' hlen ?_); intro v1 w1 hown hg hat)
                  have hbl := bel_mod hbw' (Mod.of_grown hg) (fun i hi e => by have := own_base' HO'.out i e; omega)
                  have HO2 := hid' hown
                  clear hown hg hat
                  go_roundw
                  case rel => exact ⟨i + 1, by omega, by go_num, hbl, by rw [HP.out]; simpa using HO2.out⟩
                  case measure => simp [intOf]; omega
              · have hO2 := HO.out
                rw [show alFreeK L was (satAdd xn drift) i = alGl L glob xn drift by rw [← HG.out]; unfold alFreeK; rw [List.take_of_length_le (by omega)]] at hO2
                obtain ⟨A6, c6, rfl, -, -, hr6, ha6⟩ := own_addr hO2
                have hS6 := (HS5.out.tl.bel hbw).addR hr6 (fun ad e => by have := ha6 ad e; have := HS5.out.2.2.1.1.lt; have := HS5.out.2.2.1.2.1.lt; omega)
                have hx3 : wr.cell? ⟨ba, 2, none⟩ = some (.int .i64 xn) := by simpa using hS6.e1.cell 2
                have hgl1 : (alGl L glob xn drift).length ≤ 9223372036854775807 := by
                  have := hO2.1
                  rw [← HG.out]
                  have := List.length_filter_le (fun i => !alPaused L (satAdd xn drift) i) was
                  omega
                clear HO hO2 hr6 ha6 HS5 HAM HG hx2 hbw
                have t1 : alPaused L (satAdd xn drift) (-1) = false := decide_eq_false (by omega)
                have t2 : alPaused L (satAdd xn drift) (k : Int) = false := decide_eq_false (by have := HLM.out; omega)
                have t3 : (alHeld L (satAdd xn drift)).length ≤ 9223372036854775807 := by
                  have := alHeldK_len L (satAdd xn drift) (L).length
                  have h2 := HLM.out
                  change (alHeld L (satAdd xn drift)).length ≤ (L).length at this
                  omega
                go_wp2_with ((first
                  | (go_at_call 29; refine (SAl.limit (by assumption)).mono ?_; rintro e w' ⟨rfl, hS⟩)
                  | (go_at_call 31; refine (SAl.paused _ (by assumption)).mono ?_; rintro e w' ⟨rfl, hS⟩)
                  | (go_at_call 28; refine (SAl.local_ _ _ (by assumption) ?_).mono ?_; (first | assumption | (unfold I64; omega)); rintro e w' ⟨rfl, hS⟩)
                  | (go_at_call 30; refine (SAl.held (by assumption)).mono ?_; rintro e w' ⟨A, c, rfl, hS⟩)
                  | (go_at_call 27; refine (SAl.global _ (by assumption) ?_).mono ?_; (first | assumption | (unfold I64; omega)); rintro e w' ⟨A, c, rfl, hS⟩)
                  | (go_at_call 19; refine (ref_Add _ _ _ ?_ ?_).mono ?_; assumption; assumption; rintro e w' ⟨rfl, rfl⟩)
                  | (go_at_call 25; refine (SAl.limitL _ _ _ (by assumption) HLM.out hm1).mono ?_; rintro e w' ⟨A, c, rfl, hS⟩)
                  | (go_at_call 26; refine (SAl.same (by assumption) ?_ ?_).mono ?_; assumption; assumption; rintro e w' ⟨rfl, hS⟩)))
                have HS8 := hid' (SAl.norow hS)
                clear hS
                go_loopw [145] (fun v145 wr => ∃ i : Nat, i ≤ k ∧ v145 = .int .i64 i ∧ SAl w1 wr g b drift xn L [(bl, 3, ((L).map (Value.int .i64)).toArray), (ba, 44, #[.bool true, .int .i64 xi, .int .i64 xn])] []) (fun v145 _ => k - (intOf v145).toNat)
                case atStart => exact ⟨0, Nat.zero_le _, rfl, HS8.out⟩
                case round =>
                  obtain ⟨i, hi, rfl, hS9⟩ := hrel
                  by_cases hlt3 : i < k
                  · obtain ⟨y, hy⟩ : ∃ y, (L)[i]? = some y := ⟨_, List.getElem?_eq_getElem (by have := HLM.out; omega)⟩
                    have hcy := BlkL.cell (f := Value.int .i64) hS9.e0 hy
                    have hpa := alPaused_at hy (satAdd xn drift)
                    clear hy
                    go_wp2_with ((first
                      | (go_at_call 29; refine (SAl.limit (by assumption)).mono ?_; rintro e w' ⟨rfl, hS⟩)
                      | (go_at_call 31; refine (SAl.paused _ (by assumption)).mono ?_; rintro e w' ⟨rfl, hS⟩)
                      | (go_at_call 28; refine (SAl.local_ _ _ (by assumption) ?_).mono ?_; (first | assumption | (unfold I64; omega)); rintro e w' ⟨rfl, hS⟩)
                      | (go_at_call 30; refine (SAl.held (by assumption)).mono ?_; rintro e w' ⟨A, c, rfl, hS⟩)
                      | (go_at_call 27; refine (SAl.global _ (by assumption) ?_).mono ?_; (first | assumption | (unfold I64; omega)); rintro e w' ⟨A, c, rfl, hS⟩)
                      | (go_at_call 19; refine (ref_Add _ _ _ ?_ ?_).mono ?_; assumption; assumption; rintro e w' ⟨rfl, rfl⟩)
                      | (go_at_call 25; refine (SAl.limitL _ _ _ (by assumption) HLM.out hm1).mono ?_; rintro e w' ⟨A, c, rfl, hS⟩)
                      | (go_at_call 26; refine (SAl.same (by assumption) ?_ ?_).mono ?_; assumption; assumption; rintro e w' ⟨rfl, hS⟩)))
                    go_roundw
                    case rel => exact ⟨i + 1, by omega, by go_num, hS⟩
                    case measure => simp [intOf]; omega
                  · go_wp2
                    go_roundw
                    case rel => exact ⟨j + 1, xn, L, by omega, by go_num, rfl, HLM.out, hS9.dropE⟩
                    case measure => simp [intOf]; omega
        · go_wp2
          go_ret
          exact ⟨rfl, bel_then HB.out hS.below⟩
end Go.Proofs.Ytnihefhnffnjoaa
