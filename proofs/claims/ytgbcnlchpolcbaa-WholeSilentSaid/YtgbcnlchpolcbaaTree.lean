
/- What the functions of tree do to their blocks. No condition. -/
import Derived.Test.YtgbcnlchpolcbaaAlign
import Derived.Test.YtgbcnlchpolcbaaTreePure
import Derived.IntWalk
namespace Go.Proofs.Ytgbcnlchpolcbaa
set_option maxRecDepth 100000
set_option linter.unusedSimpArgs false
open Go.RowKit
set_option linter.unusedVariables false

def keyOf (keys : List Int) (i : Int) : Int := keys.getD i.toNat 0
def innOf (outs : List Bool) (i : Nat) : Bool := !(outs.getD i true)
def wonF (won : List Int) (a : Nat) : Int := won.getD a (-1)
theorem wonF_set {won : List Int} {k : Nat} (hk : k < won.length) (v : Int) : wonF (won.set k v) = fun a => if a = k then v else wonF won a := by
  funext a
  unfold wonF
  rw [List.getD_eq_getElem?_getD, List.getD_eq_getElem?_getD, List.getElem?_set]
  by_cases h : k = a
  · subst h; simp [hk]
  · rw [if_neg h, if_neg (fun e => h e.symm)]
theorem wonF_at {won : List Int} {a : Nat} (h : a < won.length) : won[a]? = some (wonF won a) := by
  unfold wonF; rw [List.getD_eq_getElem?_getD, List.getElem?_eq_getElem h]; rfl
theorem keyOf_at {keys : List Int} {p : Nat} (h : p < keys.length) : keys[p]? = some (keyOf keys (p : Int)) := by
  unfold keyOf; rw [Int.toNat_natCast, List.getD_eq_getElem?_getD, List.getElem?_eq_getElem h]; rfl
theorem innOf_at {outs : List Bool} {p : Nat} (h : p < outs.length) : outs[p]? = some (!innOf outs p) := by
  unfold innOf; rw [List.getD_eq_getElem?_getD, List.getElem?_eq_getElem h, Bool.not_not]; rfl
theorem innOf_lt {outs : List Bool} {p : Nat} (h : innOf outs p = true) : p < outs.length := by
  rcases Nat.lt_or_ge p outs.length with hl | hl
  · exact hl
  · unfold innOf at h; rw [List.getD_eq_getElem?_getD, List.getElem?_eq_none hl] at h; cases h

def TreeB (w : World) (g bk bo bw : Nat) (keys : List Int) (outs : List Bool) (won : List Int) (size : Nat) : Prop :=
  Blk w g 45 #[.slice (some ⟨bk, 0, none⟩) keys.length keys.length, .slice (some ⟨bo, 0, none⟩) keys.length keys.length, .slice (some ⟨bw, 0, none⟩) (2 * size) (2 * size), .int .i64 size] ∧
  BlkL (Value.int .i64) w bk 3 keys ∧ BlkL Value.bool w bo 4 outs ∧ BlkL (Value.int .i64) w bw 3 won ∧ bk ≠ bw ∧ outs.length = keys.length ∧ won.length = 2 * size ∧ size ≤ 4096 ∧ keys.length ≤ size
section
variable {w w' : World} {g bk bo bw : Nat} {keys : List Int} {outs : List Bool} {won : List Int} {size : Nat}
theorem TreeB.c0 (h : TreeB w g bk bo bw keys outs won size) : w.cell? ⟨g, 0, none⟩ = some (.slice (some ⟨bk, 0, none⟩) keys.length keys.length) := by simpa using h.1.cell 0
theorem TreeB.c1 (h : TreeB w g bk bo bw keys outs won size) : w.cell? ⟨g, 1, none⟩ = some (.slice (some ⟨bo, 0, none⟩) keys.length keys.length) := by simpa using h.1.cell 1
theorem TreeB.c2 (h : TreeB w g bk bo bw keys outs won size) : w.cell? ⟨g, 2, none⟩ = some (.slice (some ⟨bw, 0, none⟩) (2 * size) (2 * size)) := by simpa using h.1.cell 2
theorem TreeB.c3 (h : TreeB w g bk bo bw keys outs won size) : w.cell? ⟨g, 3, none⟩ = some (.int .i64 size) := by simpa using h.1.cell 3
theorem TreeB.gk (h : TreeB w g bk bo bw keys outs won size) : g ≠ bk := Blk.ne h.1 h.2.1 (by decide)
theorem TreeB.go_ (h : TreeB w g bk bo bw keys outs won size) : g ≠ bo := Blk.ne h.1 h.2.2.1 (by decide)
theorem TreeB.gw (h : TreeB w g bk bo bw keys outs won size) : g ≠ bw := Blk.ne h.1 h.2.2.2.1 (by decide)
theorem TreeB.ko (h : TreeB w g bk bo bw keys outs won size) : bk ≠ bo := Blk.ne h.2.1 h.2.2.1 (by decide)
theorem TreeB.ow (h : TreeB w g bk bo bw keys outs won size) : bo ≠ bw := Blk.ne h.2.2.1 h.2.2.2.1 (by decide)
theorem TreeB.mod {S : Nat → Prop} (h : TreeB w g bk bo bw keys outs won size) (m : Mod S w w') (h1 : ¬ S g) (h2 : ¬ S bk) (h3 : ¬ S bo) (h4 : ¬ S bw) : TreeB w' g bk bo bw keys outs won size :=
  ⟨h.1.mod m h1, h.2.1.mod m h2, h.2.2.1.mod m h3, h.2.2.2.1.mod m h4, h.2.2.2.2⟩
theorem TreeB.dr (h : TreeB w g bk bo bw keys outs won size) (m : Dr w w') : TreeB w' g bk bo bw keys outs won size := by obtain ⟨n, rfl⟩ := m; exact h
theorem TreeB.setW (h : TreeB w g bk bo bw keys outs won size) (k : Nat) (v : Int) : TreeB (w.setCell ⟨bw, k, none⟩ (.int .i64 v)) g bk bo bw keys outs (won.set k v) size :=
  ⟨h.1.far (p := ⟨bw, k, none⟩) h.gw _, h.2.1.far (p := ⟨bw, k, none⟩) h.2.2.2.2.1 _, h.2.2.1.far (p := ⟨bw, k, none⟩) h.ow _, h.2.2.2.1.set k v, h.2.2.2.2.1, h.2.2.2.2.2.1, by rw [List.length_set]; exact h.2.2.2.2.2.2.1, h.2.2.2.2.2.2.2⟩
theorem TreeB.setK (h : TreeB w g bk bo bw keys outs won size) (k : Nat) (v : Int) : TreeB (w.setCell ⟨bk, k, none⟩ (.int .i64 v)) g bk bo bw (keys.set k v) outs won size := by
  refine ⟨?_, h.2.1.set k v, h.2.2.1.far (p := ⟨bk, k, none⟩) h.ko.symm _, h.2.2.2.1.far (p := ⟨bk, k, none⟩) h.2.2.2.2.1.symm _, h.2.2.2.2.1, ?_, h.2.2.2.2.2.2.1, h.2.2.2.2.2.2.2.1, ?_⟩
  · rw [List.length_set]; exact h.1.far (p := ⟨bk, k, none⟩) h.gk _
  · rw [List.length_set]; exact h.2.2.2.2.2.1
  · rw [List.length_set]; exact h.2.2.2.2.2.2.2.2
theorem TreeB.setO (h : TreeB w g bk bo bw keys outs won size) (k : Nat) (v : Bool) : TreeB (w.setCell ⟨bo, k, none⟩ (.bool v)) g bk bo bw keys (outs.set k v) won size :=
  ⟨h.1.far (p := ⟨bo, k, none⟩) h.go_ _, h.2.1.far (p := ⟨bo, k, none⟩) h.ko _, h.2.2.1.set k v, h.2.2.2.1.far (p := ⟨bo, k, none⟩) h.ow.symm _, h.2.2.2.2.1, by rw [List.length_set]; exact h.2.2.2.2.2.1, h.2.2.2.2.2.2⟩
end

/-- A place, or nobody. -/
def Place (n : Nat) (a : Int) : Prop := a = -1 ∨ ∃ p : Nat, a = (p : Int) ∧ p < n
theorem tree_better (g bk bo bw : Nat) (keys : List Int) (outs : List Bool) (won : List Int) (size : Nat) (a b : Int) (w : World) (h : TreeB w g bk bo bw keys outs won size) (ha : Place keys.length a) (hb : Place keys.length b) :
    Calls Try.prog 23 #[.pointer (some ⟨g, 0, none⟩), .int .i64 a, .int .i64 b] w fun e w' => e = .returned (.int .i64 (better (keyOf keys) a b)) ∧ Dr w w' := by
  have h0 := h.c0
  rcases ha with rfl | ⟨p, rfl, hp⟩
  · have HE := hid' (none_better (keyOf keys) b)
    clear h
    go_enter Try.func23, Try.ntmps23
    go_wp2
    go_ret
    exact ⟨ret_int HE.out.symm, (by repeat (first | exact Dr.refl _ | apply Dr.step | apply Dr.stepd))⟩
  · have hpn : ((p : Int) == -1) = false := by rw [beq_eq_false_iff_ne]; omega
    rcases hb with rfl | ⟨q, rfl, hq⟩
    · have HE := hid' (better_none (keyOf keys) (p : Int))
      clear h
      go_enter Try.func23, Try.ntmps23
      go_wp2
      go_quiet (fail)
      go_wp2
      go_ret
      exact ⟨ret_int HE.out.symm, (by repeat (first | exact Dr.refl _ | apply Dr.step | apply Dr.stepd))⟩
    · have hqn : ((q : Int) == -1) = false := by rw [beq_eq_false_iff_ne]; omega
      have cp := h.2.1.cell (keyOf_at hp)
      have cq := h.2.1.cell (keyOf_at hq)
      have p0 : (0 : Int) ≤ (p : Int) := by omega
      have q0 : (0 : Int) ≤ (q : Int) := by omega
      have p1 : (p : Int) < (keys.length : Int) := by omega
      have q1 : (q : Int) < (keys.length : Int) := by omega
      by_cases hle : keyOf keys (p : Int) ≤ keyOf keys (q : Int)
      · have HE := hid' (show better (keyOf keys) (p : Int) (q : Int) = (p : Int) by unfold better; rw [if_neg (by omega), if_pos (.inr hle)])
        clear h
        generalize keyOf keys (p : Int) = kp at *
        generalize keyOf keys (q : Int) = kq at *
        go_enter Try.func23, Try.ntmps23
        go_wp2
        go_quiet (fail)
        go_wp2
        go_ret
        exact ⟨ret_int HE.out.symm, (by repeat (first | exact Dr.refl _ | apply Dr.step | apply Dr.stepd))⟩
      · have HE := hid' (show better (keyOf keys) (p : Int) (q : Int) = (q : Int) by unfold better; rw [if_neg (by omega), if_neg (by omega)])
        clear h
        generalize keyOf keys (p : Int) = kp at *
        generalize keyOf keys (q : Int) = kq at *
        go_enter Try.func23, Try.ntmps23
        go_wp2
        go_quiet (fail)
        go_wp2
        go_ret
        exact ⟨ret_int HE.out.symm, (by repeat (first | exact Dr.refl _ | apply Dr.step | apply Dr.stepd))⟩

/-! ### play -/
theorem InvUp.place {key : Int → Int} {inn : Nat → Bool} {size i h b n : Nat} {won : Nat → Int} (hv : InvUp key inn size i h won) (hb : Node size h b) (hn : ∀ j, inn j = true → j < n) : Place n (won b) := by
  have := hv h b hb (.inl (Nat.le_refl _))
  unfold Right at this
  rcases best_in key inn (b * 2 ^ h - size) (2 ^ h) with h1 | ⟨j, h1, _, _, h2⟩
  · exact .inl (this.trans h1)
  · exact .inr ⟨j, this.trans h1, hn j h2⟩
/-- The match above height h that place i takes part in. -/
theorem up_node {H h i : Nat} (hh : h + 1 ≤ H) (hi : i < 2 ^ H) (a : Nat) (ha : a = (2 ^ H + i) / 2 ^ (h + 1)) :
    (a * 2 ^ (h + 1) ≤ 2 ^ H + i ∧ 2 ^ H + i < (a + 1) * 2 ^ (h + 1)) ∧ Node (2 ^ H) (h + 1) a ∧ 0 < a ∧ Node (2 ^ H) h (2 * a) ∧ Node (2 ^ H) h (2 * a + 1) ∧ 2 * a + 1 < 2 * 2 ^ H := by
  obtain ⟨d, rfl⟩ : ∃ d, H = d + (h + 1) := ⟨H - (h + 1), by omega⟩
  have hp : 0 < 2 ^ (h + 1) := Nat.two_pow_pos _
  have hpd : 0 < 2 ^ d := Nat.two_pow_pos _
  have hS : 2 ^ (d + (h + 1)) = 2 ^ d * 2 ^ (h + 1) := Nat.pow_add ..
  rw [hS] at hi ha ⊢
  have h1 : a * 2 ^ (h + 1) ≤ 2 ^ d * 2 ^ (h + 1) + i := by rw [ha]; exact Nat.div_mul_le_self _ _
  have h2 : 2 ^ d * 2 ^ (h + 1) + i < (a + 1) * 2 ^ (h + 1) := by
    rw [ha, Nat.add_mul, Nat.one_mul]
    have := Nat.div_add_mod' (2 ^ d * 2 ^ (h + 1) + i) (2 ^ (h + 1))
    have := Nat.mod_lt (2 ^ d * 2 ^ (h + 1) + i) hp
    omega
  have h3 : 2 ^ d ≤ a := by
    rw [ha, Nat.le_div_iff_mul_le hp]; omega
  have h4 : a + 1 ≤ 2 * 2 ^ d := by
    have : a < 2 * 2 ^ d := by
      rw [ha, Nat.div_lt_iff_lt_mul hp, Nat.mul_assoc]; omega
    omega
  have n1 : 2 ^ d * 2 ^ (h + 1) ≤ a * 2 ^ (h + 1) := Nat.mul_le_mul_right _ h3
  have n2 : (a + 1) * 2 ^ (h + 1) ≤ 2 * (2 ^ d * 2 ^ (h + 1)) := by rw [← Nat.mul_assoc]; exact Nat.mul_le_mul_right _ h4
  have e1 : 2 * a * 2 ^ h = a * 2 ^ (h + 1) := by rw [Nat.pow_succ, Nat.mul_comm 2 a, Nat.mul_assoc, Nat.mul_comm 2 (2 ^ h)]
  have e2 : (2 * a + 1) * 2 ^ h = a * 2 ^ (h + 1) + 2 ^ h := by rw [Nat.add_mul, e1, Nat.one_mul]
  have e3 : (2 * a + 1 + 1) * 2 ^ h = (a + 1) * 2 ^ (h + 1) := by rw [Nat.add_mul, e2, Nat.one_mul, Nat.add_mul, Nat.one_mul, Nat.pow_succ]; omega
  have hq : 0 < 2 ^ h := Nat.two_pow_pos _
  have e4 : (a + 1) * 2 ^ (h + 1) = a * 2 ^ (h + 1) + 2 * 2 ^ h := by rw [Nat.add_mul, Nat.one_mul, Nat.pow_succ]; omega
  refine ⟨⟨h1, h2⟩, ⟨n1, n2⟩, by omega, ⟨by rw [e1]; exact n1, by rw [e2]; omega⟩, ⟨by rw [e2]; omega, by rw [e3]; exact n2⟩, ?_⟩
  have : (a + 1) * 2 ≤ (a + 1) * 2 ^ (h + 1) := Nat.mul_le_mul_left _ (by rw [Nat.pow_succ]; omega)
  omega
theorem up_end {H h i : Nat} (hh : h ≤ H) (hi : i < 2 ^ H) : ((2 ^ H + i) / 2 ^ (h + 1) = 0) ↔ h = H := by
  constructor
  · intro h0
    rcases Nat.lt_or_ge h H with hl | hl
    · have := (up_node hl hi _ rfl).2.2.1; omega
    · omega
  · rintro rfl
    exact Nat.div_eq_of_lt (by rw [Nat.pow_succ]; omega)
theorem keep3 {w : World} {g bw a p q : Nat} {u0 u1 u2 x : Value} (c : w.cell? ⟨g, 2, none⟩ = some u0 ∧ w.cell? ⟨bw, p, none⟩ = some u1 ∧ w.cell? ⟨bw, q, none⟩ = some u2) (h1 : bw ≠ g) (h2 : p ≠ a) (h3 : q ≠ a) :
    (w.setCell ⟨bw, a, none⟩ x).cell? ⟨g, 2, none⟩ = some u0 ∧ (w.setCell ⟨bw, a, none⟩ x).cell? ⟨bw, p, none⟩ = some u1 ∧ (w.setCell ⟨bw, a, none⟩ x).cell? ⟨bw, q, none⟩ = some u2 := by
  refine ⟨?_, ?_, ?_⟩
  · rw [World.cell?_setCell_other _ _ _ _ (by intro e; injection e with e; omega)]; exact c.1
  · rw [World.cell?_setCell_other _ _ _ _ (by intro e; injection e with _ e; omega)]; exact c.2.1
  · rw [World.cell?_setCell_other _ _ _ _ (by intro e; injection e with _ e; omega)]; exact c.2.2
set_option maxRecDepth 100000 in
set_option maxHeartbeats 4000000 in
theorem tree_play (g bk bo bw H i : Nat) (keys : List Int) (outs : List Bool) (won : List Int) (inn : Nat → Bool) (w : World) (h : TreeB w g bk bo bw keys outs won (2 ^ H)) (hi : i < keys.length)
    (hin : inn i = innOf outs i) (hlt : ∀ j, inn j = true → j < keys.length)
    (hv : ∀ k a, Node (2 ^ H) k a → ¬ (a * 2 ^ k ≤ 2 ^ H + i ∧ 2 ^ H + i < (a + 1) * 2 ^ k) → Right (keyOf keys) inn (2 ^ H) k a (wonF won a)) :
    Calls Try.prog 17 #[.pointer (some ⟨g, 0, none⟩), .int .i64 i] w fun e w' => e = .returned (.tuple #[]) ∧
      ∃ won', TreeB w' g bk bo bw keys outs won' (2 ^ H) ∧ Inv (keyOf keys) inn (2 ^ H) (wonF won') ∧ Mod (fun k => k = bw) w w' := by
  have HT := hid' h
  have hsz := h.2.2.2.2.2.2.2.1
  have hks := h.2.2.2.2.2.2.2.2
  have hwl := h.2.2.2.2.2.2.1
  have hol := h.2.2.2.2.2.1
  have HLeaf := hid' (InvUp.leaf hv (if inn i then (i : Int) else -1) rfl)
  have HLT := hid' hlt
  have c1 := h.c1
  have c2 := h.c2
  have c3 := h.c3
  have cw := h.2.2.2.1.cell (wonF_at (won := won) (a := 2 ^ H + i) (by omega))
  have fw := h.2.2.2.1.frozen (2 ^ H + i)
  have co := h.2.2.1.cell (innOf_at (outs := outs) (p := i) (by omega))
  have hgw := h.gw
  have how := h.ow
  have hi0 : (0 : Int) ≤ (i : Int) := by omega
  have hi1 : (i : Int) < (keys.length : Int) := by omega
  obtain ⟨size, hsize⟩ : ∃ s, s = 2 ^ H := ⟨_, rfl⟩
  have HSZ := hid' hsize
  rw [← hsize] at hsz hks hwl c2 c3 cw fw
  have hs1 : ((size : Int) + (i : Int)) < ((2 * size : Nat) : Int) := by omega
  have hs0 : (0 : Int) ≤ (size : Int) + (i : Int) := by omega
  have HIN := hid' hin
  clear h hv hlt hsize hin
  generalize wonF won (size + i) = wv at cw
  go_enter Try.func17, Try.ntmps17
  by_cases hii : inn i = true
  · have hio : innOf outs i = true := by rw [← HIN.out]; exact hii
    have hvL := HLeaf.out
    rw [if_pos hii] at hvL
    rw [hio] at co
    have co' : (w.setCell ⟨bw, size + i, none⟩ (.int .i64 i)).cell? ⟨bo, i, none⟩ = some (.bool false) := by
      rw [World.cell?_setCell_other _ _ _ _ (by intro e; injection e with e; exact how e.symm)]; exact co
    have hT1 := HT.out.setW (2 ^ H + i) (i : Int)
    rw [← wonF_set (by have := HSZ.out; omega), HSZ.out.symm] at hvL
    rw [← HSZ.out] at hT1
    have HV := hid' hvL
    have HT1 := hid' hT1
    have HM1 := hid' ((Mod.refl (fun k => k = bw) w).setCell (p := ⟨bw, size + i, none⟩) (fun _ => rfl) (.int .i64 (i : Int)))
    clear hii hio hvL hT1
    go_wp2
    clear co' co cw fw c1 c2 c3
    generalize w.setCell ⟨bw, size + i, none⟩ (.int .i64 (i : Int)) = w1 at *
    generalize won.set (size + i) (i : Int) = won1 at *
    go_loopw [4] (fun v4 wr => ∃ (h : Nat) (won2 : List Int), v4 = .int .i64 (((size + i) / 2 ^ (h + 1) : Nat) : Int) ∧ h ≤ H ∧ TreeB wr g bk bo bw keys outs won2 size ∧ Hid (InvUp (keyOf keys) inn size i h (wonF won2)) ∧ Mod (fun k => k = bw) w wr) (fun v4 _ => (intOf v4).toNat)
    case atStart => exact ⟨0, won1, by go_num, Nat.zero_le _, HT1.out, HV.out, HM1.out⟩
    case round =>
      obtain ⟨h, won2, rfl, hh, hT, hV, hM⟩ := hrel
      have HT2 := hid' hT
      have HM2 := hid' hM
      have HEnd := hid' (up_end (H := H) (h := h) (i := i) hh (by have := HSZ.out; omega))
      rw [← HSZ.out] at HEnd
      by_cases hz : (size + i) / 2 ^ (h + 1) = 0
      · have hhH := HEnd.out.1 hz
        rw [hz]
        clear hT hM hz
        go_wp2
        go_end0
        subst hhH
        refine ⟨rfl, won2, ?_, ?_, HM2.out⟩
        · rw [← HSZ.out]; exact HT2.out
        · rw [← HSZ.out]; exact hV.out.top HSZ.out
      · have hlt : h + 1 ≤ H := by
          rcases Nat.lt_or_ge h H with hl | hl
          · exact hl
          · exact absurd (HEnd.out.2 (by omega)) hz
        obtain ⟨a, ha⟩ : ∃ a, a = (size + i) / 2 ^ (h + 1) := ⟨_, rfl⟩
        have hup := up_node hlt (i := i) (by have := HSZ.out; omega) a (by rw [ha, HSZ.out])
        rw [← HSZ.out] at hup
        obtain ⟨u1, u2, u3, u4, u5, u6⟩ := hup
        have HA2 := hid' (show (size + i) / 2 ^ (h + 1 + 1) = a / 2 by rw [ha, Nat.div_div_eq_div_mul, ← Nat.pow_succ])
        have hp1 := InvUp.place hV.out u4 HLT.out
        have hp2 := InvUp.place hV.out u5 HLT.out
        have HUP := hid' (hV.out.up u1 u2 u3)
        rw [← ha]
        have c2 := hT.c2
        have x0 := hT.2.2.2.1.cell (wonF_at (won := won2) (a := a) (by have := hT.2.2.2.2.2.2.1; omega))
        have f0 := hT.2.2.2.1.frozen a
        have x1 := hT.2.2.2.1.cell (wonF_at (won := won2) (a := 2 * a) (by have := hT.2.2.2.2.2.2.1; omega))
        have x2 := hT.2.2.2.1.cell (wonF_at (won := won2) (a := 2 * a + 1) (by have := hT.2.2.2.2.2.2.1; omega))
        have HSet := hid' (wonF_set (won := won2) (k := a) (by have := hT.2.2.2.2.2.2.1; omega))
        have hgl := hT.1.lt
        have hbl := hT.2.2.2.1.lt
        have HA := hid' ha
        clear hT hM hz ha HEnd
        generalize hv0 : wonF won2 a = v0 at *
        generalize hv1 : wonF won2 (2 * a) = v1 at *
        generalize hv2 : wonF won2 (2 * a + 1) = v2 at *
        have HV0 := hid' hv0
        have HV1 := hid' hv1
        have HV2 := hid' hv2
        clear hv0 hv1 hv2
        have a0 : (0 : Int) < (a : Int) := by omega
        have a1 : ((2 * a + 1 : Nat) : Int) < ((2 * size : Nat) : Int) := by omega
        have a2 : (a : Int) < ((2 * size : Nat) : Int) := by omega
        have HP := hid' fun (wx : World) (hw : Dr wr wx) => tree_better g bk bo bw keys outs won2 size v1 v2 wx (HT2.out.dr hw) hp1 hp2
        obtain ⟨m, hm⟩ : ∃ m, m = 2 * size := ⟨_, rfl⟩
        obtain ⟨p, hp⟩ : ∃ p, p = 2 * a := ⟨_, rfl⟩
        obtain ⟨q, hq⟩ : ∃ q, q = p + 1 := ⟨_, rfl⟩
        have hq2 : q = 2 * a + 1 := by omega
        rw [← hm] at c2
        rw [← hp] at x1
        rw [← hq2] at x2
        have w1 : IntKind.i64.wrap (2 * (a : Int)) = (p : Int) := by rw [IntWalk.i64_in _ (by omega)]; omega
        have w2 : IntKind.i64.wrap ((p : Int) + 1) = (q : Int) := by rw [IntWalk.i64_in _ (by omega)]; omega
        have b0 : (0 : Int) ≤ (a : Int) := by omega
        have b1 : (a : Int) < (m : Int) := by omega
        have b2 : (p : Int) < (m : Int) := by omega
        have b3 : (q : Int) < (m : Int) := by omega
        have n1 : a ≠ p := by omega
        have n2 : a ≠ q := by omega
        have n1' : p ≠ a := by omega
        have n2' : q ≠ a := by omega
        have n3 : bw ≠ g := fun e => hgw e.symm
        have a9 : (a : Int) ≤ 10000 := by omega
        clear u1 u2 u4 u5 u6 hp1 hp2 a1 a2 hm hp hq hq2 hwl hks hsz hs1 hs0
        go_wp2_with fail
        go_region_held3 (fun w' => w'.cell? ⟨g, 2, none⟩ = some (.slice (some ⟨bw, 0, none⟩) m m) ∧ w'.cell? ⟨bw, p, none⟩ = some (.int .i64 v1) ∧ w'.cell? ⟨bw, q, none⟩ = some (.int .i64 v2))
          (first | exact keep3 ⟨c2, x1, x2⟩ n3 n1' n2' | exact ⟨c2, x1, x2⟩)
          (first | (go_at_call 23; refine (HP.out _ (by repeat (first | exact Dr.refl _ | apply Dr.step | apply Dr.stepd))).mono ?_; rintro e w' ⟨rfl, nd, rfl⟩))
        have HT3 := hid' ((HT2.out.dr (w' := wr.drewN (1 + nd)) ⟨_, rfl⟩).setW a (better (keyOf keys) v1 v2))
        have HM3 := hid' (((HM2.out.drewN (1 + nd))).setCell (p := ⟨bw, a, none⟩) (fun _ => rfl) (.int .i64 (better (keyOf keys) v1 v2)))
        generalize (wr.drewN (1 + nd)).setCell ⟨bw, a, none⟩ (.int .i64 (better (keyOf keys) v1 v2)) = w3 at *
        clear c2 x0 x1 x2 f0 w1 w2 b1 b2 b3 n1 n2 n1' n2' n3
        go_wp2
        go_roundw
        case rel => exact ⟨h + 1, won2.set a (better (keyOf keys) v1 v2), by rw [HA2.out]; go_num, hlt, HT3.out, by unfold Hid; rw [HSet.out]; exact HUP.out, HM3.out⟩
        case measure => simp [intOf]; omega
  · have hio : innOf outs i = false := by rw [← HIN.out]; simpa using hii
    have hvL := HLeaf.out
    rw [if_neg hii] at hvL
    rw [hio] at co
    have co' : (w.setCell ⟨bw, size + i, none⟩ (.int .i64 i)).cell? ⟨bo, i, none⟩ = some (.bool true) := by
      rw [World.cell?_setCell_other _ _ _ _ (by intro e; injection e with e; exact how e.symm)]; exact co
    have hT1 := (HT.out.setW (2 ^ H + i) (i : Int)).setW (2 ^ H + i) (-1)
    rw [List.set_set] at hT1
    rw [← wonF_set (by have := HSZ.out; omega), HSZ.out.symm] at hvL
    rw [← HSZ.out] at hT1
    have HV := hid' hvL
    have HT1 := hid' hT1
    have HM1 := hid' (((Mod.refl (fun k => k = bw) w).setCell (p := ⟨bw, size + i, none⟩) (fun _ => rfl) (.int .i64 (i : Int))).setCell (p := ⟨bw, size + i, none⟩) (fun _ => rfl) (.int .i64 (-1)))
    clear hii hio hvL hT1
    go_wp2
    clear co' co cw fw c1 c2 c3
    generalize (w.setCell ⟨bw, size + i, none⟩ (.int .i64 (i : Int))).setCell ⟨bw, size + i, none⟩ (.int .i64 (-1)) = w1 at *
    generalize won.set (size + i) (-1) = won1 at *
    go_loopw [4] (fun v4 wr => ∃ (h : Nat) (won2 : List Int), v4 = .int .i64 (((size + i) / 2 ^ (h + 1) : Nat) : Int) ∧ h ≤ H ∧ TreeB wr g bk bo bw keys outs won2 size ∧ Hid (InvUp (keyOf keys) inn size i h (wonF won2)) ∧ Mod (fun k => k = bw) w wr) (fun v4 _ => (intOf v4).toNat)
    case atStart => exact ⟨0, won1, by go_num, Nat.zero_le _, HT1.out, HV.out, HM1.out⟩
    case round =>
      obtain ⟨h, won2, rfl, hh, hT, hV, hM⟩ := hrel
      have HT2 := hid' hT
      have HM2 := hid' hM
      have HEnd := hid' (up_end (H := H) (h := h) (i := i) hh (by have := HSZ.out; omega))
      rw [← HSZ.out] at HEnd
      by_cases hz : (size + i) / 2 ^ (h + 1) = 0
      · have hhH := HEnd.out.1 hz
        rw [hz]
        clear hT hM hz
        go_wp2
        go_end0
        subst hhH
        refine ⟨rfl, won2, ?_, ?_, HM2.out⟩
        · rw [← HSZ.out]; exact HT2.out
        · rw [← HSZ.out]; exact hV.out.top HSZ.out
      · have hlt : h + 1 ≤ H := by
          rcases Nat.lt_or_ge h H with hl | hl
          · exact hl
          · exact absurd (HEnd.out.2 (by omega)) hz
        obtain ⟨a, ha⟩ : ∃ a, a = (size + i) / 2 ^ (h + 1) := ⟨_, rfl⟩
        have hup := up_node hlt (i := i) (by have := HSZ.out; omega) a (by rw [ha, HSZ.out])
        rw [← HSZ.out] at hup
        obtain ⟨u1, u2, u3, u4, u5, u6⟩ := hup
        have HA2 := hid' (show (size + i) / 2 ^ (h + 1 + 1) = a / 2 by rw [ha, Nat.div_div_eq_div_mul, ← Nat.pow_succ])
        have hp1 := InvUp.place hV.out u4 HLT.out
        have hp2 := InvUp.place hV.out u5 HLT.out
        have HUP := hid' (hV.out.up u1 u2 u3)
        rw [← ha]
        have c2 := hT.c2
        have x0 := hT.2.2.2.1.cell (wonF_at (won := won2) (a := a) (by have := hT.2.2.2.2.2.2.1; omega))
        have f0 := hT.2.2.2.1.frozen a
        have x1 := hT.2.2.2.1.cell (wonF_at (won := won2) (a := 2 * a) (by have := hT.2.2.2.2.2.2.1; omega))
        have x2 := hT.2.2.2.1.cell (wonF_at (won := won2) (a := 2 * a + 1) (by have := hT.2.2.2.2.2.2.1; omega))
        have HSet := hid' (wonF_set (won := won2) (k := a) (by have := hT.2.2.2.2.2.2.1; omega))
        have hgl := hT.1.lt
        have hbl := hT.2.2.2.1.lt
        have HA := hid' ha
        clear hT hM hz ha HEnd
        generalize hv0 : wonF won2 a = v0 at *
        generalize hv1 : wonF won2 (2 * a) = v1 at *
        generalize hv2 : wonF won2 (2 * a + 1) = v2 at *
        have HV0 := hid' hv0
        have HV1 := hid' hv1
        have HV2 := hid' hv2
        clear hv0 hv1 hv2
        have a0 : (0 : Int) < (a : Int) := by omega
        have a1 : ((2 * a + 1 : Nat) : Int) < ((2 * size : Nat) : Int) := by omega
        have a2 : (a : Int) < ((2 * size : Nat) : Int) := by omega
        have HP := hid' fun (wx : World) (hw : Dr wr wx) => tree_better g bk bo bw keys outs won2 size v1 v2 wx (HT2.out.dr hw) hp1 hp2
        obtain ⟨m, hm⟩ : ∃ m, m = 2 * size := ⟨_, rfl⟩
        obtain ⟨p, hp⟩ : ∃ p, p = 2 * a := ⟨_, rfl⟩
        obtain ⟨q, hq⟩ : ∃ q, q = p + 1 := ⟨_, rfl⟩
        have hq2 : q = 2 * a + 1 := by omega
        rw [← hm] at c2
        rw [← hp] at x1
        rw [← hq2] at x2
        have w1 : IntKind.i64.wrap (2 * (a : Int)) = (p : Int) := by rw [IntWalk.i64_in _ (by omega)]; omega
        have w2 : IntKind.i64.wrap ((p : Int) + 1) = (q : Int) := by rw [IntWalk.i64_in _ (by omega)]; omega
        have b0 : (0 : Int) ≤ (a : Int) := by omega
        have b1 : (a : Int) < (m : Int) := by omega
        have b2 : (p : Int) < (m : Int) := by omega
        have b3 : (q : Int) < (m : Int) := by omega
        have n1 : a ≠ p := by omega
        have n2 : a ≠ q := by omega
        have n1' : p ≠ a := by omega
        have n2' : q ≠ a := by omega
        have n3 : bw ≠ g := fun e => hgw e.symm
        have a9 : (a : Int) ≤ 10000 := by omega
        clear u1 u2 u4 u5 u6 hp1 hp2 a1 a2 hm hp hq hq2 hwl hks hsz hs1 hs0
        go_wp2_with fail
        go_region_held3 (fun w' => w'.cell? ⟨g, 2, none⟩ = some (.slice (some ⟨bw, 0, none⟩) m m) ∧ w'.cell? ⟨bw, p, none⟩ = some (.int .i64 v1) ∧ w'.cell? ⟨bw, q, none⟩ = some (.int .i64 v2))
          (first | exact keep3 ⟨c2, x1, x2⟩ n3 n1' n2' | exact ⟨c2, x1, x2⟩)
          (first | (go_at_call 23; refine (HP.out _ (by repeat (first | exact Dr.refl _ | apply Dr.step | apply Dr.stepd))).mono ?_; rintro e w' ⟨rfl, nd, rfl⟩))
        have HT3 := hid' ((HT2.out.dr (w' := wr.drewN (1 + nd)) ⟨_, rfl⟩).setW a (better (keyOf keys) v1 v2))
        have HM3 := hid' (((HM2.out.drewN (1 + nd))).setCell (p := ⟨bw, a, none⟩) (fun _ => rfl) (.int .i64 (better (keyOf keys) v1 v2)))
        generalize (wr.drewN (1 + nd)).setCell ⟨bw, a, none⟩ (.int .i64 (better (keyOf keys) v1 v2)) = w3 at *
        clear c2 x0 x1 x2 f0 w1 w2 b1 b2 b3 n1 n2 n1' n2' n3
        go_wp2
        go_roundw
        case rel => exact ⟨h + 1, won2.set a (better (keyOf keys) v1 v2), by rw [HA2.out]; go_num, hlt, HT3.out, by unfold Hid; rw [HSet.out]; exact HUP.out, HM3.out⟩
        case measure => simp [intOf]; omega

/-! ### what a tree is to others -/
def IsTree (w : World) (lo hi g : Nat) (keys : List Int) (outs : List Bool) : Prop :=
  ∃ bk bo bw H won, TreeB w g bk bo bw keys outs won (2 ^ H) ∧ ((lo ≤ g ∧ g < hi) ∧ (lo ≤ bk ∧ bk < hi) ∧ (lo ≤ bo ∧ bo < hi) ∧ (lo ≤ bw ∧ bw < hi)) ∧ Inv (keyOf keys) (innOf outs) (2 ^ H) (wonF won)
def treeHas (n : Nat) (i : Int) : Bool := decide (0 ≤ i ∧ i < n)
def bSet (l : List Bool) (i : Int) (x : Bool) : List Bool := if 0 ≤ i then l.set i.toNat x else l
theorem bSet_len (l : List Bool) (i : Int) (x : Bool) : (bSet l i x).length = l.length := by unfold bSet; split <;> simp
theorem alSet_out {l : List Int} {i : Int} (h : treeHas l.length i = false) (x : Int) : alSet l i x = l := by
  unfold treeHas at h; rw [decide_eq_false_iff_not] at h
  unfold alSet; split
  · exact List.set_eq_of_length_le (by omega)
  · rfl
theorem bSet_out {l : List Bool} {i : Int} (h : treeHas l.length i = false) (x : Bool) : bSet l i x = l := by
  unfold treeHas at h; rw [decide_eq_false_iff_not] at h
  unfold bSet; split
  · exact List.set_eq_of_length_le (by omega)
  · rfl
theorem IsTree.mod {w w' : World} {lo hi g : Nat} {keys : List Int} {outs : List Bool} {S : Nat → Prop} (h : IsTree w lo hi g keys outs) (m : Mod S w w') (hs : ∀ k, lo ≤ k → k < hi → ¬ S k) : IsTree w' lo hi g keys outs := by
  obtain ⟨bk, bo, bw, H, won, h, hl, hv⟩ := h
  exact ⟨bk, bo, bw, H, won, h.mod m (hs _ hl.1.1 hl.1.2) (hs _ hl.2.1.1 hl.2.1.2) (hs _ hl.2.2.1.1 hl.2.2.1.2) (hs _ hl.2.2.2.1 hl.2.2.2.2), hl, hv⟩
theorem IsTree.len {w : World} {lo hi g : Nat} {keys : List Int} {outs : List Bool} (h : IsTree w lo hi g keys outs) : outs.length = keys.length ∧ keys.length ≤ 4096 := by
  obtain ⟨bk, bo, bw, H, won, h, hl, hv⟩ := h
  exact ⟨h.2.2.2.2.2.1, Nat.le_trans h.2.2.2.2.2.2.2.2 h.2.2.2.2.2.2.2.1⟩
theorem tree_has (g bk bo bw : Nat) (keys : List Int) (outs : List Bool) (won : List Int) (size : Nat) (i : Int) (w : World) (h : TreeB w g bk bo bw keys outs won size) :
    Calls Try.prog 18 #[.pointer (some ⟨g, 0, none⟩), .int .i64 i] w fun e w' => e = .returned (.bool (treeHas keys.length i)) ∧ w = w' := by
  have h0 := h.c0
  clear h
  by_cases c1 : i < 0
  · have HE := hid' (show treeHas keys.length i = false from decide_eq_false (by omega))
    go_enter Try.func18, Try.ntmps18
    go_wp2
    go_ret
    exact ⟨ret_bool HE.out.symm, rfl⟩
  · by_cases c2 : i < (keys.length : Int)
    · have HE := hid' (show treeHas keys.length i = true from decide_eq_true (by omega))
      go_enter Try.func18, Try.ntmps18
      go_wp2
      go_ret
      exact ⟨ret_bool HE.out.symm, rfl⟩
    · have HE := hid' (show treeHas keys.length i = false from decide_eq_false (by omega))
      go_enter Try.func18, Try.ntmps18
      go_wp2
      go_ret
      exact ⟨ret_bool HE.out.symm, rfl⟩
theorem Inv.fit {key : Int → Int} {inn : Nat → Bool} {size i : Nat} {won : Nat → Int} {key' : Int → Int} {inn' : Nat → Bool} (h : Inv key inn size won) (hi : ∀ j : Nat, j ≠ i → inn j = inn' j ∧ key j = key' j) :
    ∀ k a, Node size k a → ¬ (a * 2 ^ k ≤ size + i ∧ size + i < (a + 1) * 2 ^ k) → Right key' inn' size k a (won a) := h.change hi
theorem keyOf_set {keys : List Int} {p j : Nat} (h : j ≠ p) (x : Int) : keyOf (keys.set p x) (j : Int) = keyOf keys (j : Int) := by
  unfold keyOf; rw [Int.toNat_natCast, List.getD_eq_getElem?_getD, List.getD_eq_getElem?_getD, List.getElem?_set_ne (fun e => h e.symm)]
theorem innOf_set {outs : List Bool} {p j : Nat} (h : j ≠ p) (x : Bool) : innOf (outs.set p x) j = innOf outs j := by
  unfold innOf; rw [List.getD_eq_getElem?_getD, List.getD_eq_getElem?_getD, List.getElem?_set_ne (fun e => h e.symm)]
theorem tree_Set (lo hi g : Nat) (keys : List Int) (outs : List Bool) (i x : Int) (w : World) (h : IsTree w lo hi g keys outs) :
    Calls Try.prog 7 #[.pointer (some ⟨g, 0, none⟩), .int .i64 i, .int .i64 x] w fun e w' => e = .returned (.bool (treeHas keys.length i)) ∧ IsTree w' lo hi g (alSet keys i x) outs ∧ Mod (fun k => lo ≤ k ∧ k < hi) w w' := by
  have HI := hid' h
  obtain ⟨bk, bo, bw, H, won, h, hl, hv⟩ := h
  have HT := hid' h
  have h0 := h.c0
  cases hh : treeHas keys.length i
  · have HH := hid' hh
    have HS := hid' (alSet_out hh x)
    clear h hh
    go_enter Try.func7, Try.ntmps7
    go_wp2_with fail
    refine (tree_has g bk bo bw keys outs won (2 ^ H) i _ HT.out).mono ?_
    rintro e w' ⟨rfl, rfl⟩
    rw [HH.out]
    go_wp2
    go_ret
    exact ⟨rfl, by rw [HS.out]; exact HI.out, Mod.refl _ _⟩
  · have HH := hid' hh
    have hr : 0 ≤ i ∧ i < keys.length := of_decide_eq_true hh
    obtain ⟨p, rfl⟩ := Int.eq_ofNat_of_zero_le hr.1
    have hp : p < keys.length := by omega
    have c0 := h.2.1.cell (keyOf_at hp)
    have f0 := h.2.1.frozen p
    have p0 : (0 : Int) ≤ (p : Int) := by omega
    have p1 : (p : Int) < (keys.length : Int) := by omega
    have hT1 := h.setK p x
    have HT1 := hid' hT1
    have hpl := tree_play g bk bo bw H p (keys.set p x) outs won (innOf outs) (w.setCell ⟨bk, p, none⟩ (.int .i64 x)) hT1 (by rw [List.length_set]; exact hp) rfl (fun j hj => by rw [List.length_set, ← h.2.2.2.2.2.1]; exact innOf_lt hj)
      (Inv.fit hv (fun j hj => ⟨rfl, (keyOf_set hj x).symm⟩))
    have HPL := hid' hpl
    have HM := hid' ((Mod.refl (fun k => lo ≤ k ∧ k < hi) w).setCell (p := ⟨bk, p, none⟩) (fun _ => hl.2.1) (.int .i64 x))
    have HL := hid' hl
    have HS := hid' (show alSet keys (p : Int) x = keys.set p x by unfold alSet; rw [if_pos p0]; simp)
    clear h hh hT1 hpl hr hl
    generalize keyOf keys (p : Int) = kp at *
    go_enter Try.func7, Try.ntmps7
    go_wp2_with fail
    refine (tree_has g bk bo bw keys outs won (2 ^ H) p _ HT.out).mono ?_
    rintro e w' ⟨rfl, rfl⟩
    rw [HH.out]
    go_wp2_with fail
    refine HPL.out.mono ?_
    rintro e w' ⟨rfl, won', h1, h2, h3⟩
    go_wp2
    go_ret
    exact ⟨rfl, by rw [HS.out]; exact ⟨bk, bo, bw, H, won', h1, HL.out, h2⟩, HM.out.then_ h3 (by rintro k _ rfl; exact HL.out.2.2.2)⟩
theorem tree_Leave (lo hi g : Nat) (keys : List Int) (outs : List Bool) (i : Int) (x : Bool) (w : World) (h : IsTree w lo hi g keys outs) :
    Calls Try.prog 6 #[.pointer (some ⟨g, 0, none⟩), .int .i64 i, .bool x] w fun e w' => e = .returned (.bool (treeHas keys.length i)) ∧ IsTree w' lo hi g keys (bSet outs i x) ∧ Mod (fun k => lo ≤ k ∧ k < hi) w w' := by
  have HI := hid' h
  obtain ⟨bk, bo, bw, H, won, h, hl, hv⟩ := h
  have HT := hid' h
  have h1 := h.c1
  have hol := h.2.2.2.2.2.1
  cases hh : treeHas keys.length i
  · have HH := hid' hh
    have HS := hid' (bSet_out (l := outs) (by rw [hol]; exact hh) x)
    clear h hh hol
    go_enter Try.func6, Try.ntmps6
    go_wp2_with fail
    refine (tree_has g bk bo bw keys outs won (2 ^ H) i _ HT.out).mono ?_
    rintro e w' ⟨rfl, rfl⟩
    rw [HH.out]
    go_wp2
    go_ret
    exact ⟨rfl, by rw [HS.out]; exact HI.out, Mod.refl _ _⟩
  · have HH := hid' hh
    have hr : 0 ≤ i ∧ i < keys.length := of_decide_eq_true hh
    obtain ⟨p, rfl⟩ := Int.eq_ofNat_of_zero_le hr.1
    have hp : p < keys.length := by omega
    have c0 := h.2.2.1.cell (innOf_at (outs := outs) (p := p) (by omega))
    have f0 := h.2.2.1.frozen p
    have p0 : (0 : Int) ≤ (p : Int) := by omega
    have p1 : (p : Int) < (keys.length : Int) := by omega
    have hT1 := h.setO p x
    have hpl := tree_play g bk bo bw H p keys (outs.set p x) won (innOf (outs.set p x)) (w.setCell ⟨bo, p, none⟩ (.bool x)) hT1 hp rfl (fun j hj => by have := innOf_lt hj; rw [List.length_set] at this; omega)
      (Inv.fit hv (fun j hj => ⟨(innOf_set hj x).symm, rfl⟩))
    have HPL := hid' hpl
    have HM := hid' ((Mod.refl (fun k => lo ≤ k ∧ k < hi) w).setCell (p := ⟨bo, p, none⟩) (fun _ => hl.2.2.1) (.bool x))
    have HL := hid' hl
    have HS := hid' (show bSet outs (p : Int) x = outs.set p x by unfold bSet; rw [if_pos p0]; simp)
    clear h hh hT1 hpl hr hl hol
    generalize innOf outs p = kp at *
    go_enter Try.func6, Try.ntmps6
    go_wp2_with fail
    refine (tree_has g bk bo bw keys outs won (2 ^ H) p _ HT.out).mono ?_
    rintro e w' ⟨rfl, rfl⟩
    rw [HH.out]
    go_wp2_with fail
    refine HPL.out.mono ?_
    rintro e w' ⟨rfl, won', h1, h2, h3⟩
    go_wp2
    go_ret
    exact ⟨rfl, by rw [HS.out]; exact ⟨bk, bo, bw, H, won', h1, HL.out, h2⟩, HM.out.then_ h3 (by rintro k _ rfl; exact HL.out.2.2.2)⟩
def treeKey (keys : List Int) (i : Int) : Int := if treeHas keys.length i = true then keyOf keys i else 0
theorem tree_Len (lo hi g : Nat) (keys : List Int) (outs : List Bool) (w : World) (h : IsTree w lo hi g keys outs) :
    Calls Try.prog 5 #[.pointer (some ⟨g, 0, none⟩)] w fun e w' => e = .returned (.int .i64 keys.length) ∧ w = w' := by
  obtain ⟨bk, bo, bw, H, won, h, hl, hv⟩ := h
  have h0 := h.c0
  clear h
  go_enter Try.func5, Try.ntmps5
  go_wp2
  go_ret
  exact ⟨rfl, rfl⟩
/-- The place of the least one; -1: there is none. -/
def treeBest (keys : List Int) (outs : List Bool) : Int := best (keyOf keys) (innOf outs) 0 keys.length
def treeLK (keys : List Int) (outs : List Bool) : Int := if treeBest keys outs = -1 then 0 else keyOf keys (treeBest keys outs)
def treeLP (keys : List Int) (outs : List Bool) : Int := if treeBest keys outs = -1 then 0 else treeBest keys outs
def treeLO (keys : List Int) (outs : List Bool) : Bool := treeBest keys outs != -1
theorem best_more (key : Int → Int) (inn : Nat → Bool) (n m : Nat) (h : n ≤ m) (hn : ∀ j, inn j = true → j < n) : best key inn 0 m = best key inn 0 n := by
  obtain ⟨d, rfl⟩ : ∃ d, m = n + d := ⟨m - n, by omega⟩
  rw [best_add, best_out key inn (0 + n) d (fun i h1 h2 => by
    cases hh : inn i
    · rfl
    · have := hn i hh; omega), better_none]
theorem tree_Least (lo hi g : Nat) (keys : List Int) (outs : List Bool) (w : World) (h : IsTree w lo hi g keys outs) :
    Calls Try.prog 16 #[.pointer (some ⟨g, 0, none⟩)] w fun e w' => e = .returned (.tuple #[.int .i64 (treeLK keys outs), .int .i64 (treeLP keys outs), .bool (treeLO keys outs)]) ∧ w = w' := by
  obtain ⟨bk, bo, bw, H, won, h, hl, hv⟩ := h
  have h0 := h.c0
  have h2 := h.c2
  have hw1 : wonF won 1 = treeBest keys outs := by
    rw [hv.first rfl]; exact best_more _ _ _ _ h.2.2.2.2.2.2.2.2 (fun j hj => by rw [← h.2.2.2.2.2.1]; exact innOf_lt hj)
  have hp2 : 1 ≤ 2 ^ H := Nat.one_le_two_pow
  have hc := h.2.2.2.1.cell (wonF_at (won := won) (a := 1) (by have := h.2.2.2.2.2.2.1; omega))
  rw [hw1] at hc
  obtain ⟨m, hm⟩ : ∃ m, m = 2 * 2 ^ H := ⟨_, rfl⟩
  rw [← hm] at h2
  have hm1 : (1 : Int) < (m : Int) := by omega
  by_cases hb : treeBest keys outs = -1
  · have HK := hid' (show treeLK keys outs = 0 ∧ treeLP keys outs = 0 ∧ treeLO keys outs = false by unfold treeLK treeLP treeLO; rw [hb]; simp)
    rw [hb] at hc
    clear h hw1 hp2 hm hb
    go_enter Try.func16, Try.ntmps16
    go_wp2
    go_ret3
    exact ⟨by rw [HK.out.1, HK.out.2.1, HK.out.2.2]; rfl, rfl⟩
  · have HK := hid' (show treeLK keys outs = keyOf keys (treeBest keys outs) ∧ treeLP keys outs = treeBest keys outs ∧ treeLO keys outs = true by unfold treeLK treeLP treeLO; rw [if_neg hb, if_neg hb]; simp [hb])
    rcases best_in (keyOf keys) (innOf outs) 0 keys.length with h9 | ⟨q, hq, _, hqn, _⟩
    · exact absurd h9 hb
    · have hq : treeBest keys outs = (q : Int) := hq
      have c0 := h.2.1.cell (keyOf_at (keys := keys) (p := q) (by omega))
      have q0 : (0 : Int) ≤ (q : Int) := by omega
      have q1 : (q : Int) < (keys.length : Int) := by omega
      have q2 : ((q : Int) == -1) = false := by rw [beq_eq_false_iff_ne]; omega
      rw [hq] at HK hc
      clear h hw1 hp2 hm hb hq
      generalize keyOf keys (q : Int) = kq at *
      go_enter Try.func16, Try.ntmps16
      go_wp2
      go_ret3
      exact ⟨by rw [HK.out.1, HK.out.2.1, HK.out.2.2]; rfl, rfl⟩
end Go.Proofs.Ytgbcnlchpolcbaa
