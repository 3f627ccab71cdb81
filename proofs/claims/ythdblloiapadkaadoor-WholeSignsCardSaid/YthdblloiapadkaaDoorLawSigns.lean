
/- Sealed, and in words, walked. No condition but the tables and variables of Go's own library. -/
import Derived.Test.YthdblloiapadkaaDoorRowB
import Derived.Test.YthdblloiapadkaaDoorLawQuote
namespace Go.Proofs.YthdblloiapadkaaDoor
set_option maxRecDepth 100000
set_option linter.unusedSimpArgs false
open Go.RowKit
set_option linter.unusedVariables false
set_option linter.unusedSimpArgs false

theorem sp2_quote : quoteP ⟨#[97]⟩ = [34, 97, 34] := by
  unfold quoteP
  rw [show signs ⟨#[97]⟩ = [97] by decide +kernel]
  show [34] ++ (qOne 97 ++ []) ++ [34] = _
  rw [show qOne 97 = [97] by decide +kernel]
  rfl
theorem copS_seal (s : ByteArray) : copS (cseal s) = .string s := by unfold copS; rw [copen_seal]
theorem copB_seal (s : ByteArray) : copB (cseal s) = true := by unfold copB; rw [copen_seal]; rfl
theorem wrap_add8 (c n : Nat) : IntKind.u8.wrap ((c : Int) + (n : Int)) = (((c + n) % 256 : Nat) : Int) := by
  simp [IntKind.wrap, IntKind.bits, IntKind.signed]
theorem set_apart (q : ByteArray) (i : Nat) (c : UInt8) (n : Nat) (hc : (bL q)[i]? = some c) (h0 : n ≠ 0) (hn : n < 256) : (bL q).set i (UInt8.ofNat ((c.toNat + n) % 256)) ≠ bL q := by
  intro e
  have h1 := congrArg (·[i]?) e
  have hlt := (List.getElem?_eq_some_iff.1 hc).1
  simp only [List.getElem?_set, if_pos hlt, if_true] at h1
  rw [hc] at h1
  simp only [Option.some.injEq] at h1
  have h2 := congrArg UInt8.toNat h1
  have h3 := c.toNat_lt
  simp at h2
  omega
set_option maxHeartbeats 8000000 in
theorem wholeSigns (s : ByteArray) (a m : Int) (w : World) (hs : s.size ≤ maxLen) (ha : (Lit.int .u16 a).wf = true) (hm : (Lit.int .u8 m).wf = true) (hZ : TzT w) (hE : ErT w) (hT : U8T w) :
    Calls Tryd.prog 13 #[.string s, .int .u16 a, .int .u8 m] w fun e w' => e = .returned (.bool true) ∧ Below w.heap.size w w' := by
  have ha2 : 0 ≤ a ∧ a < 65536 := by
    simp [Lit.wf, IntKind.min, IntKind.max, IntKind.bits, IntKind.signed] at ha
    omega
  have hm2 : 0 ≤ m ∧ m < 256 := by
    simp [Lit.wf, IntKind.min, IntKind.max, IntKind.bits, IntKind.signed] at hm
    omega
  obtain ⟨an, rfl⟩ := Int.eq_ofNat_of_zero_le ha2.1
  obtain ⟨bn, rfl⟩ := Int.eq_ofNat_of_zero_le hm2.1
  have han : an < 65536 := by omega
  have hbn : bn < 256 := by omega
  clear ha2 hm2 ha hm
  have HT := hid' hT
  have HZ := hid' hZ
  have HE := hid' hE
  have HQ0 := hid' (fun W hT hZ => quote_Quote ⟨#[97]⟩ W (by decide) hT hZ)
  rw [sp2_quote, show strOf [34, 97, 34] = ⟨#[34, 97, 34]⟩ from rfl] at HQ0
  clear hT hZ hE
  go_enter Tryd.func13, Tryd.ntmps13
  go_wp2_with fail
  refine (crc_New w).mono ?_
  rintro e w1 ⟨g, rfl, hg, hB1, hb1⟩
  have HB1 := hid' hB1
  clear hB1
  go_wp2_with fail
  refine (crc_Sum g lit19 w1 (by decide) HB1.out).mono ?_
  rintro e w2 ⟨rfl, hd2⟩
  rw [crc_lit19]
  have hL2 := bel_then hb1 hd2.below
  have HB2 := hid' (HB1.out.below hd2.below)
  clear hb1 hd2
  go_wp2_with fail
  refine (HQ0.out w2 (HT.out.below hL2) (HZ.out.below hL2)).mono ?_
  rintro e w3 ⟨rfl, hB3⟩
  have HB3 := hid' (HB2.out.below hB3)
  have hL3 := bel_then hL2 hB3
  clear hB3 hL2
  by_cases hbig : 300 < s.size
  · have hb1 : (300 : Int) < (s.size : Int) := by omega
    go_wp2
    go_ret
    exact ⟨rfl, hL3⟩
  · have hb1 : (s.size : Int) ≤ 300 := by omega
    go_wp2_with fail
    refine (crc_Seal g s w3 (by omega) HB3.out).mono ?_
    rintro e w4 ⟨rfl, hB4⟩
    have HB4 := hid' (HB3.out.below hB4)
    have HL4 := hid' (bel_then hL3 hB4)
    clear hB4 hL3
    have hxs := cseal_size s
    have hx1 := copS_seal s
    have hx2 := copB_seal s
    obtain ⟨x, hx⟩ : ∃ x, x = cseal s := ⟨_, rfl⟩
    rw [← hx] at hxs hx1 hx2
    have HO := hid' (fun W h => crc_Open g x W (by omega) h)
    rw [hx1, hx2] at HO
    have HQ := hid' (fun W => quote_Quote x W (by omega))
    have hql := quoteP_len x
    have hqd : unqP (bL (strOf (quoteP x))) = some (bL x) := unqP_quote x
    have hq2 : 2 ≤ (quoteP x).length := by unfold quoteP; simp
    have hxq : ∀ z : ByteArray, quoteP z ≠ quoteP x → ¬ z = x := fun z h e => h (by rw [e])
    have HXQ := hid' hxq
    obtain ⟨q, hq⟩ : ∃ q, q = strOf (quoteP x) := ⟨_, rfl⟩
    have hqz : q.size = (quoteP x).length := by rw [hq]; rfl
    have hqb : bL q = quoteP x := by rw [hq]; rfl
    rw [← hq] at HQ hqd
    rw [← hqz] at hql hq2
    rw [← hqb] at HXQ
    have HU := hid' (fun W => quote_Unquote q W (by omega))
    rw [hqd, show uS (some (bL x)) = x from bL_inj (bL_str _), show uB (some (bL x)) = true from rfl] at HU
    rw [← hx]
    clear hx1 hx2 hqd hq hqz hqb hx hxq
    go_wp2_with fail
    refine (HQ.out w4 (HT.out.below HL4.out) (HZ.out.below HL4.out)).mono ?_
    rintro e w5 ⟨rfl, hB5⟩
    have HB5 := hid' (HB4.out.below hB5)
    have HL5 := hid' (bel_then HL4.out hB5)
    clear hB5
    go_wp2_with fail
    refine (HU.out w5 (HT.out.below HL5.out) (HZ.out.below HL5.out) (HE.out.below HL5.out)).mono ?_
    rintro e w6 ⟨rfl, hB6⟩
    have HB6 := hid' (HB5.out.below hB6)
    have HL6 := hid' (bel_then HL5.out hB6)
    clear hB6
    go_wp2_with fail
    refine (HO.out w6 HB6.out).mono ?_
    rintro e w7 ⟨rfl, hB7⟩
    have hL7 := bel_then HL6.out hB7
    clear hB7
    have hconv := Lib.run_convert_string_bytes (P := Tryd.prog) (u := .string) w7 9 71 5 q (by kernel_rfl) (by kernel_rfl) (by kernel_rfl)
    have HR := hid' (RowB.bytes w7 5 q)
    have HBW := hid' (bel_then hL7 (bytesWorld_below w7 5 q))
    have hge := grownCap_ge w7 q.size 0 5
    have hwb := hL7.size
    generalize grownCap w7 q.size 0 5 = C at *
    generalize Lib.bytesWorld w7 5 q = W at *
    generalize w7.heap.size = b at *
    obtain ⟨i, hi⟩ : ∃ i, i = an % q.size := ⟨_, rfl⟩
    have hil : i < q.size := by rw [hi]; exact Nat.mod_lt _ (by omega)
    have hii : (an : Int) % (q.size : Int) = (i : Int) := by rw [hi]; exact (Int.natCast_emod _ _).symm
    obtain ⟨c, hc⟩ : ∃ c, (bL q)[i]? = some c := ⟨_, List.getElem?_eq_getElem (by rw [bL_len]; exact hil)⟩
    have hcell := HR.out.1 _ _ hc
    have hfr := HR.out.2.1 i (by rw [bl_len]; exact hil)
    unfold bcell at hcell
    have hw8 := wrap_add8 c.toNat bn
    have hc256 := c.toNat_lt
    have hii2 : (i : Int) < (q.size : Int) := by omega
    clear hi hL7
    go_wp2_with fail
    have hv : ((c.toNat : Int) + (bn : Int)) % 256 = (((UInt8.ofNat ((c.toNat + bn) % 256)).toNat : Nat) : Int) := by
      have : (UInt8.ofNat ((c.toNat + bn) % 256)).toNat = (c.toNat + bn) % 256 := by simp
      rw [this]; omega
    rw [hv]
    clear hv
    have hap := fun h0 => set_apart q i c bn hc h0 hbn
    have HAP := hid' hap
    have hzl : ((bL q).set i (UInt8.ofNat ((c.toNat + bn) % 256))).length = q.size := by rw [List.length_set, bL_len]
    obtain ⟨d, hd⟩ : ∃ d, d = UInt8.ofNat ((c.toNat + bn) % 256) := ⟨_, rfl⟩
    rw [← hd] at HAP hzl
    rw [← hd]
    have hR2 := HR.out.set i d c hc
    obtain ⟨Y, hY⟩ : ∃ Y, Y = (bL q).set i d := ⟨_, rfl⟩
    change RowB _ _ ((bL q).set i d) at hR2
    rw [← hY] at hR2 HAP hzl
    clear hd hY hw8
    have hc2 := hR2.string (P := Tryd.prog) q.size C (by omega) 71 9 5 (by kernel_rfl) (by kernel_rfl) (by kernel_rfl)
    rw [List.take_of_length_le (by omega)] at hc2
    unfold bcell at hc2
    rw [hc2]
    have hL8 := bel_set HBW.out (p := ⟨b, i, none⟩) hwb (.int .u8 (d.toNat : Int))
    generalize hq2 : strOf Y = q2 at *
    have hq2b : bL q2 = Y := by rw [← hq2, bL_str]
    have hq2s : q2.size = q.size := by rw [← hzl, ← hq2]; rfl
    have HU2 := hid' (fun W => quote_Unquote q2 W (by omega))
    clear hq2
    by_cases hb0 : bn = 0
    · have hbz : ((bn : Int) == 0) = true := by rw [hb0]; rfl
      generalize uS (unqP (bL q2)) = z at *
      generalize uB (unqP (bL q2)) = ok at *
      clear hcell hfr hR2 hc2 hap
      go_wp2_with fail
      refine (HU2.out _ (HT.out.below hL8) (HZ.out.below hL8) (HE.out.below hL8)).mono ?_
      rintro e w8 ⟨rfl, hB8⟩
      go_wp2
      go_ret
      exact ⟨rfl, bel_then hL8 hB8⟩
    · have hbz : ((bn : Int) == 0) = false := by rw [beq_eq_false_iff_ne]; omega
      cases ho : unqP (bL q2) with
      | none =>
        rw [ho, show uS none = ⟨#[]⟩ from rfl, show uB none = false from rfl] at HU2
        clear hcell hfr hR2 hc2 hap ho
        go_wp2_with fail
        refine (HU2.out _ (HT.out.below hL8) (HZ.out.below hL8) (HE.out.below hL8)).mono ?_
        rintro e w8 ⟨rfl, hB8⟩
        go_wp2
        go_ret
        exact ⟨rfl, bel_then hL8 hB8⟩
      | some z =>
        have h1 := unqP_one ho
        have hzx := HXQ.out (strOf z) (by rw [show quoteP (strOf z) = bL q2 from h1, hq2b]; exact HAP.out hb0)
        have hne := strNe hzx
        rw [ho, show uS (some z) = strOf z from rfl, show uB (some z) = true from rfl] at HU2
        clear hcell hfr hR2 hc2 hap ho h1 hzx
        go_wp2_with fail
        refine (HU2.out _ (HT.out.below hL8) (HZ.out.below hL8) (HE.out.below hL8)).mono ?_
        rintro e w8 ⟨rfl, hB8⟩
        go_wp2
        go_ret
        exact ⟨rfl, bel_then hL8 hB8⟩
end Go.Proofs.YthdblloiapadkaaDoor
