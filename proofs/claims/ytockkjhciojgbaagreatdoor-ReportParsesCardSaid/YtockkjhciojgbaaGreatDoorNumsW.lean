
/- The numbers of words (config.Numbers), walked. No condition but the tables and variables of Go's own library. -/
import Derived.Test.YtockkjhciojgbaaGreatDoorNumW
import Derived.Test.YtockkjhciojgbaaGreatDoorPackS
namespace Go.Proofs.YtockkjhciojgbaaGreatDoor
set_option maxRecDepth 100000
set_option linter.unusedSimpArgs false
open Go.RowKit
set_option linter.unusedVariables false
set_option linter.unusedSimpArgs false

def rdV (x : ByteArray) : Int := (rdN (bL x)).getD 0
def rdOk (x : ByteArray) : Bool := (rdN (bL x)).isSome
def numsOk (xs : List ByteArray) : Bool := xs.all rdOk
theorem rdOk_num {x : ByteArray} (h : rdOk x = true) : numT (rdV x) = x ∧ I64 (rdV x) ∧ Lib.atoiAll (bL x) = .ok (rdV x) := by
  unfold rdOk at h
  obtain ⟨n, hn⟩ := Option.isSome_iff_exists.1 h
  have hv : rdV x = n := by unfold rdV; rw [hn]; rfl
  obtain ⟨h1, h2⟩ := rdN_some hn
  rw [hv]
  refine ⟨bL_inj (by unfold numT; rw [bL_str]; exact h1), h2, ?_⟩
  rw [← h1]; exact atoi_itoa h2
theorem rdOk_not {x : ByteArray} (h : rdOk x = false) {v : Int} (hv : Lib.atoiAll (bL x) = .ok v) : ¬ numT v = x := by
  intro e
  unfold rdOk rdN at h
  rw [hv] at h
  simp only at h
  rw [if_pos (by rw [← e]; rfl)] at h
  cases h
def NumPost (w : World) (xs : List ByteArray) (e : Ending) (w' : World) : Prop :=
  ((numsOk xs = true ∧ ∃ v, e = .returned (.tuple #[v, .bool true]) ∧ w'.ownsRow w.heap.size 3 1 v xs.length (xs.map fun x => iV (rdV x))) ∨ (numsOk xs = false ∧ e = .returned (.tuple #[.slice none 0 0, .bool false]))) ∧ Below w.heap.size w w'
theorem own_len0 {w : World} {base : Nat} {e : TypeId} {size n : Nat} {v : Value} {xs : List Value} (h : w.ownsRow base e size v n xs) : ∃ A c, v = .slice A n c := by
  obtain ⟨A, c, hv, _⟩ := own_rd h
  exact ⟨A, c, hv⟩
set_option maxHeartbeats 8000000 in
theorem config_Numbers (A : Option Addr) (c : Nat) (xs : List ByteArray) (w : World) (hr : Rd w A (xs.map .string)) (hl : xs.length ≤ 100000) (hz : ∀ x ∈ xs, x.size ≤ 200000) (hP : PowT w) (hE : ErV w) :
    Calls Tryz.prog 113 #[.slice A xs.length c] w (NumPost w xs) := by
  have HR := hid' hr
  have HP := hid' hP
  have HE := hid' hE
  have HZ := hid' hz
  have HB0 := hid' (bel_refl w)
  have HO0 := hid' (World.ownsRow_nil w w.heap.size 3 1)
  clear hr hP hE hz
  go_enter Tryz.func113, Tryz.ntmps113
  go_wp2
  go_loopw [4, 6, 7, 8, 11] (fun v4 v6 v7 v8 v11 wr => ∃ k : Nat, k ≤ xs.length ∧ v11 = .int .i64 k ∧ (∀ j x, j < k → xs[j]? = some x → rdOk x = true) ∧ wr.ownsRow w.heap.size 3 1 v4 k ((xs.take k).map fun x => iV (rdV x)) ∧ Below w.heap.size w wr) (fun _ _ _ _ v11 _ => xs.length - (intOf v11).toNat)
  case atStart => exact ⟨0, Nat.zero_le _, rfl, fun j x hj => by omega, HO0.out, HB0.out⟩
  case round =>
    obtain ⟨k, hk, rfl, hok, hown, hL⟩ := hrel
    have HOK := hid' hok
    have HOWN := hid' hown
    have HL := hid' hL
    by_cases hlt : k < xs.length
    · have hlti : (k : Int) < (xs.length : Int) := by omega
      obtain ⟨ad, x, rfl, hx, hcell⟩ := (HR.out.below hL).at_ hlt
      have HX := hid' hx
      have hxz := HZ.out x (List.mem_of_getElem? hx)
      have HA := hid' (fun W hE => atoiW x W hxz hE)
      have hwr := hL.size
      have HEr := hid' (HE.out.below hL)
      clear hok hown hL hx
      cases hd : rdOk x with
      | true =>
        obtain ⟨hnum, hI, hat⟩ := rdOk_num hd
        have HD := hid' hd
        have HNUM := hid' hnum
        have HAT := hid' hat
        clear hd hnum hat
        obtain ⟨n, hn⟩ : ∃ n, n = rdV x := ⟨_, rfl⟩
        rw [← hn] at HNUM hI HAT
        have HN := hid' hn
        clear hn
        go_wp2_with fail
        refine (HA.out wr HEr.out).mono ?_
        rintro e w2 ⟨he, hB2⟩
        rcases he with ⟨v, hv, rfl⟩ | ⟨hno, _⟩
        · have hvn : v = n := by rw [HAT.out] at hv; injection hv with hv; exact hv.symm
          subst hvn
          have HL2 := hid' (bel_then HL.out hB2)
          have HOWN2 := hid' (own_below HOWN.out hB2)
          have HP2 := hid' (HP.out.below HL2.out)
          clear hv hB2
          go_wp2_with fail
          refine (itoaW v w2 hI HP2.out).mono ?_
          rintro e w3 ⟨rfl, hB3⟩
          rw [HNUM.out]
          have HL3 := hid' (bel_then HL2.out hB3)
          have HOWN3 := hid' (own_below HOWN2.out hB3)
          have hbase := HL3.out.size
          have h8 : (k + 1) * 8 ≤ 140737488355328 := by omega
          have hone := hid' (show ∀ u ∈ [(.int .i64 v : Value)], u.oneCell' = true by intro u hu; rw [List.mem_singleton] at hu; subst hu; rfl)
          clear hB3
          go_wp2_with (at_builtin; (refine ap_cells w.heap.size rfl (.tmp 28) (.tmp 30) 99 3 (.int .i64 0) 1 8 rfl (by kernel_rfl) (by kernel_rfl) rfl (by decide) (by decide) _ k ((xs.take k).map fun x => iV (rdV x)) [.int .i64 v] rfl (by rfl) rfl hone.out HOWN3.out hbase h8 ?_); intro v1 w4 hown hg hat)
          go_roundw
          case rel => exact ⟨k + 1, by omega, by go_num, fun j y hj hy => by
            by_cases hjk : j = k
            · subst hjk; rw [HX.out] at hy; rw [← Option.some.inj hy]; exact HD.out
            · exact HOK.out j y (by omega) hy, by
              have : (xs.take (k + 1)).map (fun x => iV (rdV x)) = (xs.take k).map (fun x => iV (rdV x)) ++ [.int .i64 v] := by
                rw [List.take_add_one, HX.out, List.map_append, HN.out]; rfl
              rw [this]; exact hown, bel_mod HL3.out (Mod.of_grown hg) (fun j hj e => by have := own_base' HOWN3.out j e; omega)⟩
          case measure => (simp only [intOf]; omega)
        · exact absurd HAT.out (hno n)
      | false =>
        have hall : numsOk xs = false := by
          unfold numsOk
          rw [List.all_eq_false]
          exact ⟨x, List.mem_of_getElem? HX.out, by rw [hd]; decide⟩
        have HALL := hid' hall
        have HD := hid' hd
        clear hd hall
        go_wp2_with fail
        refine (HA.out wr HEr.out).mono ?_
        rintro e w2 ⟨he, hB2⟩
        have HL2 := hid' (bel_then HL.out hB2)
        rcases he with ⟨v, hv, rfl⟩ | ⟨hno, v, t, p, rfl⟩
        · have hI : I64 v := Lib.atoiAll_bounds hv
          have hne := strNe (rdOk_not HD.out hv)
          have HP2 := hid' (HP.out.below HL2.out)
          clear hv hB2
          go_wp2_with fail
          refine (itoaW v w2 hI HP2.out).mono ?_
          rintro e w3 ⟨rfl, hB3⟩
          have HL3 := hid' (bel_then HL2.out hB3)
          clear hB3
          generalize numT v = y at *
          go_wp2
          go_ret2
          exact ⟨.inr ⟨HALL.out, rfl⟩, HL3.out⟩
        · clear hB2 hno
          go_wp2
          go_ret2
          exact ⟨.inr ⟨HALL.out, rfl⟩, HL2.out⟩
    · obtain rfl : k = xs.length := by omega
      have hall : numsOk xs = true := by
        unfold numsOk
        rw [List.all_eq_true]
        intro x hx
        obtain ⟨j, hj, e⟩ := List.mem_iff_getElem.1 hx
        exact hok j x hj (by rw [List.getElem?_eq_getElem hj, e])
      have HALL := hid' hall
      clear hok hown hL hall
      rw [List.take_length] at HOWN
      go_wp2
      go_ret2
      exact ⟨.inl ⟨HALL.out, _, rfl, HOWN.out⟩, HL.out⟩
end Go.Proofs.YtockkjhciojgbaaGreatDoor
