
/- frame.Encode. No condition. -/
import Derived.Test.YteifpdpppndipaaFrameB
namespace Go.Proofs.Yteifpdpppndipaa
set_option maxRecDepth 100000
set_option linter.unusedSimpArgs false
open Go.RowKit
set_option linter.unusedVariables false
set_option linter.unusedSimpArgs false

def fEncS (r : Rec) : ByteArray := if fCheck r = 0 then fFull r else ⟨#[]⟩
theorem cells_mod {S : Nat → Prop} {W W' : World} {b : Nat} {x y z : Value} (h : W.cell? ⟨b, 0, none⟩ = some x ∧ W.cell? ⟨b, 1, none⟩ = some y ∧ W.cell? ⟨b, 2, none⟩ = some z) (hm : Mod S W W') (hs : ¬ S b) :
    W'.cell? ⟨b, 0, none⟩ = some x ∧ W'.cell? ⟨b, 1, none⟩ = some y ∧ W'.cell? ⟨b, 2, none⟩ = some z :=
  ⟨hm.cell h.1 hs, hm.cell h.2.1 hs, hm.cell h.2.2 hs⟩
theorem own_byteW (w : World) (k : Int) : OwnC (w.alloc (.cells #[.int .u8 (IntKind.u8.wrap k)] 5)).drew w.heap.size (.slice (some ⟨w.heap.size, 0, none⟩) 1 1) 1 ([UInt8.ofNat (k % 256).toNat].map bcell) := by
  rw [u8_wrap']
  exact (own_byte w 5 k).below (bel_drew (bel_refl _))
set_option maxHeartbeats 1000000 in
theorem frame_Encode (r : Rec) (w : World) (ht : I64 r.2.1) (hs : r.2.2.size ≤ 200000) :
    Calls Try.prog 15 #[recV r] w fun e w' => e = .returned (.tuple #[.string (fEncS r), .int .i64 (fCheck r)]) ∧ Below w.heap.size w w' := by
  obtain ⟨k, t, s⟩ := r
  have hs : s.size ≤ 200000 := hs
  have ht : I64 t := ht
  have hb0 := bel_refl w
  by_cases hk : kindOk k = true
  · have HK := hid' (fun w => frame_Kind k w)
    rw [hk] at HK
    have hle := recBody_le (k, t, s) ht
    have hlt := vfold_lt ht
    have hv := vput10 (vfold t) hlt
    simp only at hle
    have hf1 : fCheck (k, t, s) = if 65536 < (recBody (k, t, s)).size then 4 else 0 := by unfold fCheck; rw [if_pos hk]
    have hE := show fFull (k, t, s) = strOf (vput (recBody (k, t, s)).size) ++ cseal (recBody (k, t, s)) from rfl
    obtain ⟨hd, hhd⟩ : ∃ hd, hd = strOf ([UInt8.ofNat (k % 256).toNat] ++ vput (vfold t)) := ⟨_, rfl⟩
    have hbd : recBody (k, t, s) = hd ++ s := by rw [hhd]; rfl
    have hds : hd.size ≤ 11 := by rw [hhd]; show ([UInt8.ofNat (k % 256).toNat] ++ vput (vfold t)).length ≤ 11; simp; omega
    rw [hbd] at hf1 hE
    have hf2 : fEncS (k, t, s) = if fCheck (k, t, s) = 0 then fFull (k, t, s) else ⟨#[]⟩ := rfl
    obtain ⟨f, hf⟩ : ∃ f, f = fCheck (k, t, s) := ⟨_, rfl⟩
    obtain ⟨fs, hfs⟩ : ∃ fs, fs = fEncS (k, t, s) := ⟨_, rfl⟩
    rw [← hf] at hf1 hf2 ⊢
    rw [← hfs] at hf2 ⊢
    rw [hE] at hf2
    have HF1 := hid' hf1
    have HF2 := hid' hf2
    have HD := hid' hhd
    have hbk := Blk.new_ w 40 #[.int .i64 k, .int .i64 t, .string s]
    have hB1 := bel_alloc (bel_refl w) (.cells #[.int .i64 k, .int .i64 t, .string s] 40)
    clear hf1 hf2 hf hfs hE hbd hk hle hhd hv hb0
    unfold recV
    simp only
    go_enter Try.func15, Try.ntmps15
    go_wp2_with fail
    generalize w.alloc (.cells #[.int .i64 k, .int .i64 t, .string s] 40) = w1 at *
    generalize hB0 : w.heap.size = b0 at *
    have HB0 := hid' hB0
    clear hB0
    have c0 : w1.cell? ⟨b0, 0, none⟩ = some (.int .i64 k) := by simpa using hbk.cell 0
    have c1 : w1.cell? ⟨b0, 1, none⟩ = some (.int .i64 t) := by simpa using hbk.cell 1
    have c2 : w1.cell? ⟨b0, 2, none⟩ = some (.string s) := by simpa using hbk.cell 2
    have hltb := hbk.lt
    have HB1 := hid' hB1
    clear hbk hB1
    refine (HK.out _).mono ?_
    rintro e w' ⟨rfl, rfl⟩
    have HPI := hid' (varint_PutInt w1.heap.size (.slice (some ⟨w1.heap.size, 0, none⟩) 1 1) [UInt8.ofNat (k % 256).toNat] t _ (own_byteW w1 k) (by simp) ht (by simp))
    have hj : hd.size + s.size ≤ 9223372036854775807 := by omega
    go_wp2_with fail
    go_region_held (fun w' => w'.cell? ⟨b0, 0, none⟩ = some (.int .i64 k) ∧ w'.cell? ⟨b0, 1, none⟩ = some (.int .i64 t) ∧ w'.cell? ⟨b0, 2, none⟩ = some (.string s))
      (first | go_keep | exact hcells)
      (first
        | (go_at_call 6; refine HPI.out.mono ?_; rintro e w2 ⟨v2, rfl, h1, h2, h3⟩
           have hcells := cells_mod (by assumption) h2 (fun e => by simp [Value.ownBlock] at e; omega)
           have hconv := h1.string (P := Try.prog) 24 9 5 (by kernel_rfl) (by kernel_rfl) (by kernel_rfl)
           rw [← HD.out] at hconv))
    have hB2 : Below b0 w w2 := HB1.out.trans ((bel_mod (bel_drew (bel_alloc (bel_refl w1) _)) h2 (fun i hi e => by simp [Value.ownBlock] at e; omega)).mono (by omega))
    have HB2 := hid' hB2
    clear hB2 hcells hconv h1 h2 h3 HPI HD c0 c1 c2 HB1 HK
    have hszb : (hd ++ s).size = hd.size + s.size := ByteArray.size_append ..
    generalize hd ++ s = b at *
    have hbs : b.size ≤ 200011 := by omega
    clear hszb hj hds
    have hcs := cseal_size b
    have hv := vput10 b.size (by omega)
    have hblt : b.size < 18446744073709551616 := by omega
    by_cases hl : 65536 < b.size
    · have H1 := HF1.out
      rw [if_pos hl] at H1
      have H2 := HF2.out
      rw [H1, if_neg (by decide)] at H2
      have H1 := hid' H1
      have H2 := hid' H2
      go_wp2
      go_ret2
      exact ⟨by rw [H1.out, H2.out] <;> rfl, by rw [HB0.out]; exact HB2.out⟩
    · have H1 := HF1.out
      rw [if_neg hl] at H1
      have H2 := HF2.out
      rw [H1, if_pos rfl] at H2
      obtain ⟨u, hu⟩ : ∃ u, u = strOf (vput b.size) := ⟨_, rfl⟩
      have hus : u.size ≤ 10 := by rw [hu]; exact hv
      obtain ⟨z, hz⟩ : ∃ z, z = cseal b := ⟨_, rfl⟩
      rw [← hu, ← hz] at H2
      have HU := hid' (show u = strOf ([] ++ vput b.size) from hu)
      rw [← hz] at hcs
      have HZ := hid' hz
      have H1 := hid' H1
      have H2 := hid' H2
      have hj : u.size + z.size ≤ 9223372036854775807 := by omega
      have hwb : IntKind.u64.wrap (b.size : Int) = (b.size : Int) := by rw [u64_wrap']; omega
      have hBc := HB2.out
      clear hu hz hv hcs HF1 HF2
      go_wp2_with fail
      go_region_with (first
        | (go_at_call 7; refine (varint_Put 0 (.slice none 0 0) [] b.size _ (OwnC.nil _ _) (Nat.zero_le _) hblt (by simp)).mono ?_; rintro e w4 ⟨v4, rfl, q1, q2, q3⟩
           have hB4 := q2.below (fun i hi e => by cases e)
           have hBc : Below b0 w w4 := (by first | exact hBc.trans (hB4.mono (by have := hBc.size; have := HB0.out; omega)) | exact hBc.trans ((bel_then (bel_drew (bel_refl _)) hB4).mono (by have := hBc.size; have := HB0.out; omega)))
           have hconv := q1.string (P := Try.prog) 24 9 5 (by kernel_rfl) (by kernel_rfl) (by kernel_rfl)
           rw [← HU.out] at hconv
           try (have hgN := hgN.below hB4)
           clear hB4)
        | (go_at_call 20; refine (crc_New _).mono ?_; rintro e w5 ⟨g, rfl, hgl, hgN, hB5⟩
           have hBc : Below b0 w w5 := (by first | exact hBc.trans (hB5.mono (by have := hBc.size; have := HB0.out; omega)) | exact hBc.trans ((bel_then (bel_drew (bel_refl _)) hB5).mono (by have := hBc.size; have := HB0.out; omega)))
           try (have q1 := q1.below hB5; have hconv := q1.string (P := Try.prog) 24 9 5 (by kernel_rfl) (by kernel_rfl) (by kernel_rfl); rw [← HU.out] at hconv)
           clear hB5)
        | (go_at_call 21; refine (crc_Seal g b _ (by omega) hgN).mono ?_; rintro e w6 ⟨rfl, hB6⟩
           have hBc : Below b0 w w6 := (by first | exact hBc.trans (hB6.mono (by have := hBc.size; have := HB0.out; omega)) | exact hBc.trans ((bel_then (bel_drew (bel_refl _)) hB6).mono (by have := hBc.size; have := HB0.out; omega)))
           try (have q1 := q1.below hB6; have hconv := q1.string (P := Try.prog) 24 9 5 (by kernel_rfl) (by kernel_rfl) (by kernel_rfl); rw [← HU.out] at hconv)
           rw [← HZ.out]
           clear hB6))
      all_goals
        go_wp2
        go_ret2
        exact ⟨by rw [H1.out, H2.out] <;> rfl, by rw [HB0.out]; exact hBc⟩
  · have HK := hid' (fun w => frame_Kind k w)
    rw [show kindOk k = false by simpa using hk] at HK
    have h1 : fCheck (k, t, s) = 3 := by unfold fCheck; rw [if_neg hk]
    have h2 : fEncS (k, t, s) = ⟨#[]⟩ := by unfold fEncS; rw [h1, if_neg (by decide)]
    rw [h1, h2]
    clear hk h1 h2
    unfold recV
    simp only
    go_enter Try.func15, Try.ntmps15
    go_wp2_with (go_at_call 19; refine (HK.out _).mono ?_; rintro e w' ⟨rfl, rfl⟩)
    go_ret2
    exact ⟨rfl, bel_alloc hb0 _⟩
end Go.Proofs.Yteifpdpppndipaa
