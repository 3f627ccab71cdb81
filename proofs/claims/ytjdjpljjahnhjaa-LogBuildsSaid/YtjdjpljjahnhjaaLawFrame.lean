
/- The laws of layer 5 (frame), walked: what the package says of itself. No condition. -/
import Derived.Test.YtjdjpljjahnhjaaFrameE
import Derived.Test.YtjdjpljjahnhjaaFrameG
import Derived.Test.YtjdjpljjahnhjaaOpen
namespace Go.Proofs.Ytjdjpljjahnhjaa
set_option maxRecDepth 100000
set_option linter.unusedSimpArgs false
open Go.RowKit
set_option linter.unusedVariables false
set_option linter.unusedSimpArgs false

theorem fFull_size (r : Rec) : (fFull r).size = (vput (recBody r).size).length + (recBody r).size + 4 := by
  unfold fFull; rw [size_bl, bl_app, List.length_append, bl_str, ← size_bl, cseal_size]; omega
theorem size_app (a b : ByteArray) : (a ++ b).size = a.size + b.size := by rw [size_bl, bl_app, List.length_append, ← size_bl, ← size_bl]
theorem speaks5_size : (fFull (1, -1, ⟨#[120]⟩)).size = 8 := by
  have h1 : vput (vfold (1, -1, (⟨#[120]⟩ : ByteArray)).2.1) = [1] := by
    rw [show vfold (1, -1, (⟨#[120]⟩ : ByteArray)).2.1 = 1 from by decide, vput]; rfl
  have h2 : (recBody (1, -1, ⟨#[120]⟩)).size = 3 := by rw [recBody_size, h1]; rfl
  rw [fFull_size, h2, vput]; rfl
theorem speaks5_check : fCheck (1, -1, ⟨#[120]⟩) = 0 := by
  have h1 : vput (vfold (1, -1, (⟨#[120]⟩ : ByteArray)).2.1) = [1] := by
    rw [show vfold (1, -1, (⟨#[120]⟩ : ByteArray)).2.1 = 1 from by decide, vput]; rfl
  have h2 : (recBody (1, -1, ⟨#[120]⟩)).size = 3 := by rw [recBody_size, h1]; rfl
  unfold fCheck; rw [h2]; rfl
theorem speaks5_get : fGet ⟨#[1]⟩ = (zRec, 0, 4) := by decide
theorem cells_rec {w w' : World} {T : TypeId} {x y z : Value} (hb : Below (w.alloc (.cells #[x, y, z] T)).heap.size (w.alloc (.cells #[x, y, z] T)) w') :
    w.heap.size < w'.heap.size ∧ w'.cell? ⟨w.heap.size, 0, none⟩ = some x ∧ w'.cell? ⟨w.heap.size, 1, none⟩ = some y ∧ w'.cell? ⟨w.heap.size, 2, none⟩ = some z := by
  have h := (Blk.new_ w T #[x, y, z]).below hb
  exact ⟨h.lt, h.cell 0, h.cell 1, h.cell 2⟩
set_option maxHeartbeats 4000000 in
theorem law05_speaks (w : World) : Calls Try.prog 22 #[] w fun e w' => e = .returned (.bool true) ∧ Below w.heap.size w w' := by
  obtain ⟨r, hr⟩ : ∃ r : Rec, r = (1, -1, ⟨#[120]⟩) := ⟨_, rfl⟩
  have hI : I64 r.2.1 := by rw [hr]; unfold I64; decide
  have hc : fCheck r = 0 := by rw [hr]; exact speaks5_check
  have hes : fEncS r = fFull r := by unfold fEncS; rw [if_pos hc]
  have hsz : (fFull r).size = 8 := by rw [hr]; exact speaks5_size
  have hg := fGet_full hc hI ⟨#[122]⟩
  rw [hsz] at hg
  have HE := hid' (fun w => frame_Encode r w hI (by rw [hr]; decide))
  rw [hes, hc, hr] at HE
  unfold recV at HE
  rw [hr] at hsz hg
  obtain ⟨s, hs⟩ : ∃ s, s = fFull (1, -1, ⟨#[120]⟩) := ⟨_, rfl⟩
  rw [← hs] at hsz hg HE
  clear hs hr hI hc hes
  have HG1 := hid' (fun w => frame_Get (s ++ ⟨#[122]⟩) w (by rw [size_app, hsz]; decide))
  have HG2 := hid' (fun w => frame_Get ⟨#[1]⟩ w (by decide))
  rw [hg] at HG1
  rw [speaks5_get] at HG2
  unfold recV at HG1 HG2
  simp only [zRec] at HG2
  clear hg
  have hj : s.size + 1 ≤ 9223372036854775807 := by omega
  go_enter Try.func22, Try.ntmps22
  go_wp2_with (go_at_call 23; refine (HE.out _).mono ?_; rintro e w1 ⟨rfl, hB1⟩)
  refine (HG1.out _).mono ?_
  rintro e w2 ⟨rfl, hB2⟩
  go_wp2_with fail
  refine (HG2.out _).mono ?_
  rintro e w3 ⟨rfl, hB3⟩
  obtain ⟨hl, c0, c1, c2⟩ := cells_rec hB3
  have hne : w2.heap.size ≠ w3.heap.size := by omega
  go_wp2_with (go_at_call 25; refine (frame_Kind _ _).mono ?_; rintro e w' ⟨rfl, rfl⟩)
  go_ret
  exact ⟨rfl, bel_alloc (bel_then (bel_alloc (bel_then hB1 hB2) _) hB3) _⟩

set_option maxHeartbeats 2000000 in
theorem frameGets (s : ByteArray) (w : World) (hs : s.size ≤ maxLen) :
    Calls Try.prog 5 #[.string s] w fun e w' => e = .returned (.bool true) ∧ Below w.heap.size w w' := by
  have hlen : s.size ≤ 9223372036854775807 := hs
  by_cases hbig : 500 < s.size
  · go_enter Try.func5, Try.ntmps5
    go_wp2_with (go_at_call 22; refine (law05_speaks _).mono ?_; rintro e w1 ⟨rfl, hB1⟩)
    go_ret
    exact ⟨rfl, hB1⟩
  have HG1 := hid' (fun w => frame_Get s w (by omega))
  have HG2 := hid' (fun w => ref05_Get s w (by omega))
  obtain ⟨⟨k, t, x⟩, n, er, hg⟩ : ∃ r n e, fGet s = (r, n, e) := ⟨_, _, _, rfl⟩
  have hone := fun h : er = 0 => fGet_one (s := s) (r := (k, t, x)) (n := n) (by rw [hg, h]) (by omega)
  rw [hg] at HG1 HG2
  unfold recV at HG1
  unfold gotV at HG2
  simp only at HG1 HG2
  clear hg
  by_cases he : er = 0
  · obtain ⟨m, rfl, hm, hf, hc, ht, hm0⟩ := hone he
    have hxs : x.size ≤ 200000 := by
      have h1 := fFull_size (k, t, x)
      rw [hf, recBody_size, ByteArray.size_extract] at h1
      simp only at h1
      omega
    have HE := hid' (fun w => ref05_Encode (k, t, x) w ht hxs)
    rw [hf] at HE
    unfold recV at HE
    simp only at HE
    subst he
    clear hone hf hc
    have hmI : (m : Int) ≤ (s.size : Int) := by omega
    go_enter Try.func5, Try.ntmps5
    go_wp2_with (first
      | (go_at_call 22; refine (law05_speaks _).mono ?_; rintro e w1 ⟨rfl, hB1⟩)
      | (go_at_call 26; refine (HG1.out _).mono ?_; rintro e w2 ⟨rfl, hB2⟩)
      | (go_at_call 28; refine (HG2.out _).mono ?_; rintro e w3 ⟨rfl, hB3⟩; obtain ⟨hl, c0, c1, c2⟩ := cells_rec hB3; have hne : w2.heap.size ≠ w3.heap.size := by omega)
      | (go_at_call 27; refine (HE.out _).mono ?_; rintro e w4 ⟨rfl, hB4⟩))
    go_region_with (go_at_call 27; refine (HE.out _).mono ?_; rintro e w4 ⟨rfl, hB4⟩)
    all_goals
      go_wp2
      go_ret
      refine ⟨rfl, ?_⟩
      have h3 := bel_alloc (bel_then (bel_alloc (bel_then hB1 hB2) _) hB3) (.cells #[.int .i64 k, .int .i64 t, .string x, .int .i64 m, .int .i64 0] 47)
      first | exact bel_then h3 hB4 | exact bel_then (bel_drew h3) hB4 | exact bel_drew (bel_then h3 hB4)
  · have hne0 : (er != 0) = true := by simpa using he
    clear hone he
    go_enter Try.func5, Try.ntmps5
    go_wp2_with (first
      | (go_at_call 22; refine (law05_speaks _).mono ?_; rintro e w1 ⟨rfl, hB1⟩)
      | (go_at_call 26; refine (HG1.out _).mono ?_; rintro e w2 ⟨rfl, hB2⟩)
      | (go_at_call 28; refine (HG2.out _).mono ?_; rintro e w3 ⟨rfl, hB3⟩; obtain ⟨hl, c0, c1, c2⟩ := cells_rec hB3; have hne : w2.heap.size ≠ w3.heap.size := by omega))
    go_region
    all_goals
      go_wp2
      go_ret
      refine ⟨rfl, ?_⟩
      first | exact bel_alloc (bel_then (bel_alloc (bel_then hB1 hB2) _) hB3) _ | exact bel_drew (bel_alloc (bel_then (bel_alloc (bel_then hB1 hB2) _) hB3) _)

def RRec (w : World) (cs : List Value) (x : Rec) : Prop := cs.length = 3 ∧ RInt .i64 w ((cs.drop 0).take 1) x.1 ∧ RInt .i64 w ((cs.drop 1).take 1) x.2.1 ∧ RStr w ((cs.drop 2).take 1) x.2.2
theorem RRec.cells {w : World} {cs : List Value} {x : Rec} (h : RRec w cs x) : cs = [.int .i64 x.1, .int .i64 x.2.1, .string x.2.2] ∧ I64 x.1 ∧ I64 x.2.1 ∧ x.2.2.size ≤ maxLen := by
  obtain ⟨hl, ⟨h1, w1⟩, ⟨h2, w2⟩, ⟨h3, w3⟩⟩ := h
  match cs, hl with
  | [a, b, c], _ =>
    simp at h1 h2 h3
    subst h1 h2 h3
    exact ⟨rfl, I64.of_wf w1, I64.of_wf w2, w3⟩
set_option maxHeartbeats 4000000 in
theorem frameEncodes (cs : Array Value) (r : Rec) (more : ByteArray) (w : World) (hr : RRec w cs.toList r) (hm : more.size ≤ maxLen) :
    Calls Try.prog 4 #[.agg cs, .string more] w fun e w' => e = .returned (.bool true) ∧ Below w.heap.size w w' := by
  have hm' : more.size ≤ 9223372036854775807 := hm
  obtain ⟨hcs, hkI, htI, hxm⟩ := hr.cells
  obtain ⟨k, t, x⟩ := r
  simp only at hkI htI hxm hcs
  obtain rfl : cs = #[.int .i64 k, .int .i64 t, .string x] := Array.ext' hcs
  have hxm' : x.size ≤ 9223372036854775807 := hxm
  clear hr hm hxm
  by_cases hx1 : 300 < x.size
  · skip
    have HZ := trivial
    go_enter Try.func4, Try.ntmps4
    go_wp2_with fail
    have hbk := Blk.new_ w 37 #[.int .i64 k, .int .i64 t, .string x]
    have hB0 := bel_alloc (bel_refl w) (.cells #[.int .i64 k, .int .i64 t, .string x] 37)
    generalize w.alloc (.cells #[.int .i64 k, .int .i64 t, .string x] 37) = w0 at *
    have HB0 := hid' hB0
    have HK0 := hid' hbk
    clear hB0 hbk
    refine (law05_speaks _).mono ?_
    rintro e w1 ⟨rfl, hB1⟩
    have HK1 := hid' (HK0.out.below hB1)
    have HB1 := hid' (bel_then HB0.out hB1)
    clear hB1
    have c0 : w1.cell? ⟨w.heap.size, 0, none⟩ = some (.int .i64 k) := by simpa using HK1.out.cell 0
    have c1 : w1.cell? ⟨w.heap.size, 1, none⟩ = some (.int .i64 t) := by simpa using HK1.out.cell 1
    have c2 : w1.cell? ⟨w.heap.size, 2, none⟩ = some (.string x) := by simpa using HK1.out.cell 2
    go_wp2
    all_goals
      go_ret
      exact ⟨rfl, HB1.out⟩
  by_cases hx2 : 300 < more.size
  · skip
    have HZ := trivial
    go_enter Try.func4, Try.ntmps4
    go_wp2_with fail
    have hbk := Blk.new_ w 37 #[.int .i64 k, .int .i64 t, .string x]
    have hB0 := bel_alloc (bel_refl w) (.cells #[.int .i64 k, .int .i64 t, .string x] 37)
    generalize w.alloc (.cells #[.int .i64 k, .int .i64 t, .string x] 37) = w0 at *
    have HB0 := hid' hB0
    have HK0 := hid' hbk
    clear hB0 hbk
    refine (law05_speaks _).mono ?_
    rintro e w1 ⟨rfl, hB1⟩
    have HK1 := hid' (HK0.out.below hB1)
    have HB1 := hid' (bel_then HB0.out hB1)
    clear hB1
    have c0 : w1.cell? ⟨w.heap.size, 0, none⟩ = some (.int .i64 k) := by simpa using HK1.out.cell 0
    have c1 : w1.cell? ⟨w.heap.size, 1, none⟩ = some (.int .i64 t) := by simpa using HK1.out.cell 1
    have c2 : w1.cell? ⟨w.heap.size, 2, none⟩ = some (.string x) := by simpa using HK1.out.cell 2
    go_wp2
    all_goals
      go_ret
      exact ⟨rfl, HB1.out⟩
  have hxs : x.size ≤ 200000 := by omega
  have HE := hid' (fun w => frame_Encode (k, t, x) w htI hxs)
  have HC := hid' (fun w => ref05_Check (k, t, x) w htI hxs)
  have HR := hid' (fun w => ref05_Encode (k, t, x) w htI hxs)
  have hfull := fun hc : fCheck (k, t, x) = 0 => fGet_full (r := (k, t, x)) hc htI more
  have hsz := recBody_size (k, t, x)
  have hv10 := vput10 (vfold t) (vfold_lt htI)
  simp only at hsz
  have hchk : fCheck (k, t, x) = if kindOk k = true then 0 else 3 := by
    unfold fCheck; rw [if_neg (show ¬ 65536 < (recBody (k, t, x)).size by omega)]
  have hfs := fFull_size (k, t, x)
  have hv10' := vput10 (recBody (k, t, x)).size (by omega)
  obtain ⟨s, hs⟩ : ∃ s, s = fFull (k, t, x) := ⟨_, rfl⟩
  have hss : s.size ≤ 1000 := by rw [hs]; omega
  unfold recV at HE HC HR
  simp only at HE HC HR
  have hHK := fun w => frame_Kind k w
  by_cases hk : kindOk k = true
  · rw [if_pos hk] at hchk
    have hes : fEncS (k, t, x) = s := by unfold fEncS; rw [if_pos hchk, hs]
    rw [hes, hchk] at HE
    rw [hchk] at HC
    rw [← hs] at HR
    have hf := hfull hchk
    rw [← hs] at hf
    have HG := hid' (fun w => frame_Get (s ++ more) w (by rw [size_app]; omega))
    rw [hf] at HG
    unfold recV at HG
    simp only at HG
    rw [hk] at hHK
    have HHK := hid' hHK
    have hj : s.size + more.size ≤ 9223372036854775807 := by omega
    clear hf hfull hchk hsz hfs hs hes hv10 hv10' hHK
    have hkk := kindOk_two hk
    clear hk
    have hkk2 : ((k == 1) = true) ∨ ((k == 1) = false ∧ (k == 2) = true) := by rcases hkk with h | h <;> simp [h]
    clear hkk
    rcases hkk2 with q1 | ⟨q1, q2⟩
    all_goals
      have HZ := trivial
      go_enter Try.func4, Try.ntmps4
      go_wp2_with fail
      have hbk := Blk.new_ w 37 #[.int .i64 k, .int .i64 t, .string x]
      have hB0 := bel_alloc (bel_refl w) (.cells #[.int .i64 k, .int .i64 t, .string x] 37)
      generalize w.alloc (.cells #[.int .i64 k, .int .i64 t, .string x] 37) = w0 at *
      have HB0 := hid' hB0
      have HK0 := hid' hbk
      clear hB0 hbk
      refine (law05_speaks _).mono ?_
      rintro e w1 ⟨rfl, hB1⟩
      have HK1 := hid' (HK0.out.below hB1)
      have HB1 := hid' (bel_then HB0.out hB1)
      clear hB1
      have c0 : w1.cell? ⟨w.heap.size, 0, none⟩ = some (.int .i64 k) := by simpa using HK1.out.cell 0
      have c1 : w1.cell? ⟨w.heap.size, 1, none⟩ = some (.int .i64 t) := by simpa using HK1.out.cell 1
      have c2 : w1.cell? ⟨w.heap.size, 2, none⟩ = some (.string x) := by simpa using HK1.out.cell 2
      go_wp2_with (first
        | (go_at_call 23; refine (HE.out _).mono ?_; rintro e w2 ⟨rfl, hB2⟩; have HK2 := hid' (HK1.out.below hB2); have c0 : w2.cell? ⟨w.heap.size, 0, none⟩ = some (.int .i64 k) := (by simpa using HK2.out.cell 0); have c1 : w2.cell? ⟨w.heap.size, 1, none⟩ = some (.int .i64 t) := (by simpa using HK2.out.cell 1); have c2 : w2.cell? ⟨w.heap.size, 2, none⟩ = some (.string x) := (by simpa using HK2.out.cell 2))
        | (go_at_call 24; refine (HC.out _).mono ?_; rintro e w3 ⟨rfl, hB3⟩; have HK3 := hid' (HK2.out.below hB3); have c0 : w3.cell? ⟨w.heap.size, 0, none⟩ = some (.int .i64 k) := (by simpa using HK3.out.cell 0); have c1 : w3.cell? ⟨w.heap.size, 1, none⟩ = some (.int .i64 t) := (by simpa using HK3.out.cell 1); have c2 : w3.cell? ⟨w.heap.size, 2, none⟩ = some (.string x) := (by simpa using HK3.out.cell 2)))
      go_quiet ((go_at_call 25; exact quiet_same (HHK.out _) (by repeat (first | exact Dr.refl _ | apply Dr.step | apply Dr.stepd))))
      all_goals
        go_wp2_with (first
          | (go_at_call 26; refine (HG.out _).mono ?_; rintro e w4 ⟨rfl, hB4⟩; have HK4 := hid' (Blk.below (HK3.out.drewN _) hB4); have hl4 := HK4.out.lt; have hn4 : w.heap.size ≠ w4.heap.size := (by omega); have c0 : w4.cell? ⟨w.heap.size, 0, none⟩ = some (.int .i64 k) := (by simpa using HK4.out.cell 0); have c1 : w4.cell? ⟨w.heap.size, 1, none⟩ = some (.int .i64 t) := (by simpa using HK4.out.cell 1); have c2 : w4.cell? ⟨w.heap.size, 2, none⟩ = some (.string x) := (by simpa using HK4.out.cell 2))
          | (go_at_call 27; refine (HR.out _).mono ?_; rintro e w5 ⟨rfl, hB5⟩; have HK5 := hid' (Blk.below (HK4.out.alloc _) hB5); have c0 : w5.cell? ⟨w.heap.size, 0, none⟩ = some (.int .i64 k) := (by simpa using HK5.out.cell 0); have c1 : w5.cell? ⟨w.heap.size, 1, none⟩ = some (.int .i64 t) := (by simpa using HK5.out.cell 1); have c2 : w5.cell? ⟨w.heap.size, 2, none⟩ = some (.string x) := (by simpa using HK5.out.cell 2); obtain ⟨hl, d0, d1, d2⟩ := cells_rec hB5))
        go_ret
        refine ⟨rfl, ?_⟩
        exact bel_then (bel_alloc (bel_then (bel_drewN (bel_then (bel_then HB1.out hB2) hB3) _) hB4) _) hB5
  · rw [if_neg hk] at hchk
    have hes : fEncS (k, t, x) = ⟨#[]⟩ := by unfold fEncS; rw [if_neg (by rw [hchk]; decide)]
    rw [hes, hchk] at HE
    rw [hchk] at HC
    rw [show kindOk k = false by simpa using hk] at hHK
    have HHK := hid' hHK
    obtain ⟨q1, q2⟩ := kindOk_not hk
    have q1 : (k == 1) = false := by simpa using q1
    have q2 : (k == 2) = false := by simpa using q2
    clear hfull hchk hsz hfs hs hes hv10 hv10' hHK hk
    have HZ := trivial
    go_enter Try.func4, Try.ntmps4
    go_wp2_with fail
    have hbk := Blk.new_ w 37 #[.int .i64 k, .int .i64 t, .string x]
    have hB0 := bel_alloc (bel_refl w) (.cells #[.int .i64 k, .int .i64 t, .string x] 37)
    generalize w.alloc (.cells #[.int .i64 k, .int .i64 t, .string x] 37) = w0 at *
    have HB0 := hid' hB0
    have HK0 := hid' hbk
    clear hB0 hbk
    refine (law05_speaks _).mono ?_
    rintro e w1 ⟨rfl, hB1⟩
    have HK1 := hid' (HK0.out.below hB1)
    have HB1 := hid' (bel_then HB0.out hB1)
    clear hB1
    have c0 : w1.cell? ⟨w.heap.size, 0, none⟩ = some (.int .i64 k) := by simpa using HK1.out.cell 0
    have c1 : w1.cell? ⟨w.heap.size, 1, none⟩ = some (.int .i64 t) := by simpa using HK1.out.cell 1
    have c2 : w1.cell? ⟨w.heap.size, 2, none⟩ = some (.string x) := by simpa using HK1.out.cell 2
    go_wp2_with (first
      | (go_at_call 23; refine (HE.out _).mono ?_; rintro e w2 ⟨rfl, hB2⟩; have HK2 := hid' (HK1.out.below hB2); have c0 : w2.cell? ⟨w.heap.size, 0, none⟩ = some (.int .i64 k) := (by simpa using HK2.out.cell 0); have c1 : w2.cell? ⟨w.heap.size, 1, none⟩ = some (.int .i64 t) := (by simpa using HK2.out.cell 1); have c2 : w2.cell? ⟨w.heap.size, 2, none⟩ = some (.string x) := (by simpa using HK2.out.cell 2))
      | (go_at_call 24; refine (HC.out _).mono ?_; rintro e w3 ⟨rfl, hB3⟩; have HK3 := hid' (HK2.out.below hB3); have c0 : w3.cell? ⟨w.heap.size, 0, none⟩ = some (.int .i64 k) := (by simpa using HK3.out.cell 0); have c1 : w3.cell? ⟨w.heap.size, 1, none⟩ = some (.int .i64 t) := (by simpa using HK3.out.cell 1); have c2 : w3.cell? ⟨w.heap.size, 2, none⟩ = some (.string x) := (by simpa using HK3.out.cell 2)))
    go_quiet ((go_at_call 25; exact quiet_same (HHK.out _) (by repeat (first | exact Dr.refl _ | apply Dr.step | apply Dr.stepd))))
    all_goals
      go_wp2
      go_ret
      refine ⟨rfl, ?_⟩
      exact bel_drewN (bel_then (bel_then HB1.out hB2) hB3) _
end Go.Proofs.Ytjdjpljjahnhjaa
