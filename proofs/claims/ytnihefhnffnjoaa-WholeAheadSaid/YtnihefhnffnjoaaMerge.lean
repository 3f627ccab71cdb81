
/- What the functions of merge do to their blocks. No condition. -/
import Derived.Test.YtnihefhnffnjoaaTreeNew
import Derived.Deep.RegionWith
namespace Go.Proofs.Ytnihefhnffnjoaa
open Go.RowKit
set_option linter.unusedVariables false

def MergeB (w : World) (m : Nat) (a : Int) (s : Bool) (t0 l0 h0 : Nat) (k0 : List Int) (o0 : List Bool) (t1 l1 h1 : Nat) (k1 : List Int) (o1 : List Bool) (bi : Nat) (iss : List Int) : Prop :=
  Blk w m 96 #[.int .i64 a, .bool s, .pointer (some ⟨t0, 0, none⟩), .pointer (some ⟨t1, 0, none⟩), .slice (some ⟨bi, 0, none⟩) iss.length iss.length] ∧ IsTree w l0 h0 t0 k0 o0 ∧ IsTree w l1 h1 t1 k1 o1 ∧ BlkL (Value.int .i64) w bi 3 iss ∧
  ((h0 ≤ l1 ∨ h1 ≤ l0) ∧ (m < l0 ∨ h0 ≤ m) ∧ (m < l1 ∨ h1 ≤ m) ∧ (bi < l0 ∨ h0 ≤ bi) ∧ (bi < l1 ∨ h1 ≤ bi)) ∧ k0.length = iss.length ∧ k1.length = iss.length ∧ I64 a
section
variable {w w' : World} {m : Nat} {a : Int} {s : Bool} {t0 l0 h0 : Nat} {k0 : List Int} {o0 : List Bool} {t1 l1 h1 : Nat} {k1 : List Int} {o1 : List Bool} {bi : Nat} {iss : List Int}
theorem MergeB.mb (h : MergeB w m a s t0 l0 h0 k0 o0 t1 l1 h1 k1 o1 bi iss) : m ≠ bi := Blk.ne h.1 h.2.2.2.1 (by decide)
theorem MergeB.c2 (h : MergeB w m a s t0 l0 h0 k0 o0 t1 l1 h1 k1 o1 bi iss) : w.cell? ⟨m, 2, none⟩ = some (.pointer (some ⟨t0, 0, none⟩)) := by simpa using h.1.cell 2
theorem MergeB.c3 (h : MergeB w m a s t0 l0 h0 k0 o0 t1 l1 h1 k1 o1 bi iss) : w.cell? ⟨m, 3, none⟩ = some (.pointer (some ⟨t1, 0, none⟩)) := by simpa using h.1.cell 3
theorem MergeB.c4 (h : MergeB w m a s t0 l0 h0 k0 o0 t1 l1 h1 k1 o1 bi iss) : w.cell? ⟨m, 4, none⟩ = some (.slice (some ⟨bi, 0, none⟩) iss.length iss.length) := by simpa using h.1.cell 4
theorem MergeB.put0 {k0' : List Int} {o0' : List Bool} (h : MergeB w m a s t0 l0 h0 k0 o0 t1 l1 h1 k1 o1 bi iss) (hm : Mod (fun k => l0 ≤ k ∧ k < h0) w w') (ht : IsTree w' l0 h0 t0 k0' o0') (hl : k0'.length = k0.length) : MergeB w' m a s t0 l0 h0 k0' o0' t1 l1 h1 k1 o1 bi iss := by
  obtain ⟨b1, b2, b3, b4, b5, b6, b7, b8⟩ := h
  exact ⟨b1.mod hm (by omega), ht, b3.mod hm (by intro k h1 h2 h3; omega), b4.mod hm (by omega), b5, hl.trans b6, b7, b8⟩
theorem MergeB.put1 {k1' : List Int} {o1' : List Bool} (h : MergeB w m a s t0 l0 h0 k0 o0 t1 l1 h1 k1 o1 bi iss) (hm : Mod (fun k => l1 ≤ k ∧ k < h1) w w') (ht : IsTree w' l1 h1 t1 k1' o1') (hl : k1'.length = k1.length) : MergeB w' m a s t0 l0 h0 k0 o0 t1 l1 h1 k1' o1' bi iss := by
  obtain ⟨b1, b2, b3, b4, b5, b6, b7, b8⟩ := h
  exact ⟨b1.mod hm (by omega), b2.mod hm (by intro k h1 h2 h3; omega), ht, b4.mod hm (by omega), b5, b6, hl.trans b7, b8⟩
theorem MergeB.putI (h : MergeB w m a s t0 l0 h0 k0 o0 t1 l1 h1 k1 o1 bi iss) (q : Nat) (x : Int) : MergeB (w.setCell ⟨bi, q, none⟩ (.int .i64 x)) m a s t0 l0 h0 k0 o0 t1 l1 h1 k1 o1 bi (iss.set q x) := by
  have hmb := h.mb
  obtain ⟨b1, b2, b3, b4, b5, b6, b7, b8⟩ := h
  have hm : Mod (fun k => k = bi) w (w.setCell ⟨bi, q, none⟩ (.int .i64 x)) := (Mod.refl (fun k => k = bi) w).setCell (p := ⟨bi, q, none⟩) (fun _ => rfl) _
  refine ⟨?_, b2.mod hm (by intro k h1 h2 h3; omega), b3.mod hm (by intro k h1 h2 h3; omega), b4.set q x, b5, ?_, ?_, b8⟩
  · rw [List.length_set]; exact b1.mod hm hmb
  · rw [List.length_set]; exact b6
  · rw [List.length_set]; exact b7
theorem MergeB.mod {S : Nat → Prop} (h : MergeB w m a s t0 l0 h0 k0 o0 t1 l1 h1 k1 o1 bi iss) (hm : Mod S w w') (e1 : ¬ S m) (e2 : ∀ k, l0 ≤ k → k < h0 → ¬ S k) (e3 : ∀ k, l1 ≤ k → k < h1 → ¬ S k) (e4 : ¬ S bi) : MergeB w' m a s t0 l0 h0 k0 o0 t1 l1 h1 k1 o1 bi iss := by
  obtain ⟨b1, b2, b3, b4, b5⟩ := h
  exact ⟨b1.mod hm e1, b2.mod hm e2, b3.mod hm e3, b4.mod hm e4, b5⟩
end
def RngM (l0 h0 l1 h1 bi : Nat) (k : Nat) : Prop := (l0 ≤ k ∧ k < h0) ∨ (l1 ≤ k ∧ k < h1) ∨ k = bi
theorem mergeB_Mark (m : Nat) (a : Int) (s : Bool) (t0 l0 h0 : Nat) (k0 : List Int) (o0 : List Bool) (t1 l1 h1 : Nat) (k1 : List Int) (o1 : List Bool) (bi : Nat) (iss : List Int) (i x : Int) (w : World)
    (h : MergeB w m a s t0 l0 h0 k0 o0 t1 l1 h1 k1 o1 bi iss) :
    Calls Try.prog 41 #[.pointer (some ⟨m, 0, none⟩), .int .i64 i, .int .i64 x] w fun e w' => e = .returned (.bool (treeHas iss.length i)) ∧
      MergeB w' m a s t0 l0 h0 (alSet k0 i x) o0 t1 l1 h1 (alSet k1 i x) o1 bi iss ∧ Mod (RngM l0 h0 l1 h1 bi) w w' := by
  have HH := hid' h
  have c2 := h.c2
  have HL0 := hid' h.2.2.2.2.2.1
  have HL1 := hid' h.2.2.2.2.2.2.1
  clear h
  cases hh : treeHas iss.length i
  · have HE := hid' hh
    have HS0 := hid' (alSet_out (l := k0) (by rw [HL0.out]; exact hh) x)
    have HS1 := hid' (alSet_out (l := k1) (by rw [HL1.out]; exact hh) x)
    clear hh
    go_enter Try.func41, Try.ntmps41
    go_wp2_with fail
    refine (tree_Set l0 h0 t0 k0 o0 i x w HH.out.2.1).mono ?_
    rintro e w1 ⟨rfl, ht, hm⟩
    have HX := hid' (HH.out.put0 hm ht (alSet_len _ _ _))
    have HM := hid' hm
    rw [HL0.out, HE.out]
    clear ht hm
    go_wp2
    go_ret
    refine ⟨rfl, ?_, HM.out.mono (fun k _ h => .inl h)⟩
    have := HX.out
    rw [HS0.out] at this
    rw [HS0.out, HS1.out]; exact this
  · have HE := hid' hh
    clear hh
    go_enter Try.func41, Try.ntmps41
    go_wp2_with fail
    refine (tree_Set l0 h0 t0 k0 o0 i x w HH.out.2.1).mono ?_
    rintro e w1 ⟨rfl, ht, hm⟩
    have hX := HH.out.put0 hm ht (alSet_len _ _ _)
    have c3 := hX.c3
    have HX := hid' hX
    have HM := hid' hm
    rw [HL0.out, HE.out]
    clear ht hm hX
    go_wp2_with fail
    refine (tree_Set l1 h1 t1 k1 o1 i x w1 HX.out.2.2.1).mono ?_
    rintro e w2 ⟨rfl, ht, hm⟩
    have HX2 := hid' (HX.out.put1 hm ht (alSet_len _ _ _))
    have HM2 := hid' (HM.out.mono (T := RngM l0 h0 l1 h1 bi) (fun k _ h => .inl h) |>.trans (hm.mono (fun k _ h => .inr (.inl h))))
    rw [HL1.out, HE.out]
    clear ht hm
    go_wp2
    go_ret
    exact ⟨rfl, HX2.out, HM2.out⟩
theorem mergeB_Is (m : Nat) (a : Int) (s : Bool) (t0 l0 h0 : Nat) (k0 : List Int) (o0 : List Bool) (t1 l1 h1 : Nat) (k1 : List Int) (o1 : List Bool) (bi : Nat) (iss : List Int) (i x : Int) (w : World)
    (h : MergeB w m a s t0 l0 h0 k0 o0 t1 l1 h1 k1 o1 bi iss) :
    Calls Try.prog 42 #[.pointer (some ⟨m, 0, none⟩), .int .i64 i, .int .i64 x] w fun e w' => e = .returned (.bool (treeHas iss.length i)) ∧
      MergeB w' m a s t0 l0 h0 k0 (bSet o0 i (x != 0)) t1 l1 h1 k1 (bSet o1 i (x != 1)) bi (alSet iss i x) ∧ Mod (RngM l0 h0 l1 h1 bi) w w' := by
  have HH := hid' h
  have c4 := h.c4
  have HO0 := hid' (show o0.length = iss.length from h.2.1.len.1.trans h.2.2.2.2.2.1)
  have HO1 := hid' (show o1.length = iss.length from h.2.2.1.len.1.trans h.2.2.2.2.2.2.1)
  have hno : treeHas iss.length i = false → MergeB w m a s t0 l0 h0 k0 (bSet o0 i (x != 0)) t1 l1 h1 k1 (bSet o1 i (x != 1)) bi (alSet iss i x) := fun hh => by
    rw [bSet_out (by rw [HO0.out]; exact hh), bSet_out (by rw [HO1.out]; exact hh), alSet_out hh]; exact HH.out
  have HNO := hid' hno
  have hbne := h.2.2.2.2.1
  have hlt4 := h.2.2.2.1
  clear hno h
  by_cases hneg : i < 0
  · have HE := hid' (show treeHas iss.length i = false from decide_eq_false (by omega))
    clear hlt4 hbne
    go_enter Try.func42, Try.ntmps42
    go_wp2
    go_ret
    exact ⟨ret_bool HE.out.symm, HNO.out HE.out, Mod.refl _ _⟩
  · obtain ⟨q, rfl⟩ := Int.eq_ofNat_of_zero_le (show 0 ≤ i by omega)
    have hq0 : (0 : Int) ≤ (q : Int) := by omega
    by_cases hq : q < iss.length
    · have HE := hid' (show treeHas iss.length (q : Int) = true from decide_eq_true (by omega))
      have hq1 : (q : Int) < (iss.length : Int) := by omega
      obtain ⟨y, hy⟩ : ∃ y, iss[q]? = some y := ⟨_, List.getElem?_eq_getElem hq⟩
      have hcy := hlt4.cell hy
      have hfy := hlt4.frozen q
      have hX := HH.out.putI q x
      have c2 := hX.c2
      have HX := hid' hX
      have HM := hid' ((Mod.refl (RngM l0 h0 l1 h1 bi) w).setCell (p := ⟨bi, q, none⟩) (fun _ => .inr (.inr rfl)) (.int .i64 x))
      have HS := hid' (show alSet iss (q : Int) x = iss.set q x by unfold alSet; rw [if_pos hq0]; simp)
      clear hX hlt4 hbne hy hneg
      go_enter Try.func42, Try.ntmps42
      go_wp2_with fail
      refine (tree_Leave l0 h0 t0 k0 o0 (q : Int) (x != 0) _ HX.out.2.1).mono ?_
      rintro e w1 ⟨rfl, ht, hm⟩
      have hX := HX.out.put0 hm ht rfl
      have c3 := hX.c3
      have HX2 := hid' hX
      have HM2 := hid' (HM.out.trans (hm.mono (T := RngM l0 h0 l1 h1 bi) (fun k _ h => .inl h)))
      clear ht hm hX c2 hcy hfy
      go_wp2_with fail
      refine (tree_Leave l1 h1 t1 k1 o1 (q : Int) (x != 1) _ HX2.out.2.2.1).mono ?_
      rintro e w2 ⟨rfl, ht, hm⟩
      have HX3 := hid' (HX2.out.put1 hm ht rfl)
      have HM3 := hid' (HM2.out.trans (hm.mono (T := RngM l0 h0 l1 h1 bi) (fun k _ h => .inr (.inl h))))
      clear ht hm
      go_wp2
      go_ret
      exact ⟨ret_bool HE.out.symm, by rw [HS.out]; exact HX3.out, HM3.out⟩
    · have HE := hid' (show treeHas iss.length (q : Int) = false from decide_eq_false (by omega))
      have hq1 : decide (q < iss.length) = false := decide_eq_false hq
      clear hlt4 hbne
      go_enter Try.func42, Try.ntmps42
      go_wp2
      go_ret
      exact ⟨ret_bool HE.out.symm, HNO.out HE.out, Mod.refl _ _⟩

/-! ### what a merge is to others -/
def outOf (c : Int) (iss : List Int) : List Bool := iss.map (fun x => x != c)
theorem outOf_set (c : Int) (iss : List Int) (i x : Int) : bSet (outOf c iss) i (x != c) = outOf c (alSet iss i x) := by
  unfold bSet alSet outOf; split
  · rw [List.map_set]
  · rfl
def IsMerge (w : World) (lo hi m : Nat) (marks iss : List Int) (now : Int) : Prop :=
  ∃ a s t0 l0 h0 t1 l1 h1 bi, MergeB w m a s t0 l0 h0 marks (outOf 0 iss) t1 l1 h1 marks (outOf 1 iss) bi iss ∧ clNow a s = now ∧ ((lo ≤ m ∧ m < hi) ∧ (lo ≤ l0 ∧ h0 ≤ hi) ∧ (lo ≤ l1 ∧ h1 ≤ hi) ∧ lo ≤ bi ∧ bi < hi) ∧ (∀ x ∈ marks, I64 x)
def mergeLeast (marks iss : List Int) : Int :=
  if treeLO marks (outOf 0 iss) = true then treeLK marks (outOf 0 iss) else if treeLO marks (outOf 1 iss) = true then treeLK marks (outOf 1 iss) else 9223372036854775807
theorem treeLK_I64 {keys : List Int} (outs : List Bool) (h : ∀ x ∈ keys, I64 x) : I64 (treeLK keys outs) := by
  unfold treeLK keyOf
  split
  · unfold I64; omega
  · rw [List.getD_eq_getElem?_getD]
    cases hx : keys[(treeBest keys outs).toNat]? with
    | none => simp [I64]
    | some x => exact h x (List.mem_of_getElem? hx)
theorem mergeLeast_I64 {marks : List Int} (iss : List Int) (h : ∀ x ∈ marks, I64 x) : I64 (mergeLeast marks iss) := by
  unfold mergeLeast
  split
  · exact treeLK_I64 _ h
  · split
    · exact treeLK_I64 _ h
    · unfold I64; omega
theorem alSet_mem {l : List Int} {i x y : Int} (h : y ∈ alSet l i x) : y ∈ l ∨ y = x := by
  unfold alSet at h
  split at h
  · exact List.mem_or_eq_of_mem_set h
  · exact .inl h
theorem IsMerge.mod {w w' : World} {lo hi m : Nat} {marks iss : List Int} {now : Int} {S : Nat → Prop} (h : IsMerge w lo hi m marks iss now) (hm : Mod S w w') (hs : ∀ k, lo ≤ k → k < hi → ¬ S k) : IsMerge w' lo hi m marks iss now := by
  obtain ⟨a, s, t0, l0, h0, t1, l1, h1, bi, hB, hn, hr, hx⟩ := h
  exact ⟨a, s, t0, l0, h0, t1, l1, h1, bi, hB.mod hm (hs _ hr.1.1 hr.1.2) (fun k e1 e2 => hs k (by omega) (by omega)) (fun k e1 e2 => hs k (by omega) (by omega)) (hs _ hr.2.2.2.1 hr.2.2.2.2), hn, hr, hx⟩
theorem IsMerge.len {w : World} {lo hi m : Nat} {marks iss : List Int} {now : Int} (h : IsMerge w lo hi m marks iss now) : marks.length = iss.length := by
  obtain ⟨a, s, t0, l0, h0, t1, l1, h1, bi, hB, hn, hr, hx⟩ := h; exact hB.2.2.2.2.2.1
theorem merge_Mark (lo hi m : Nat) (marks iss : List Int) (now i x : Int) (w : World) (h : IsMerge w lo hi m marks iss now) (hx : I64 x) :
    Calls Try.prog 41 #[.pointer (some ⟨m, 0, none⟩), .int .i64 i, .int .i64 x] w fun e w' => e = .returned (.bool (treeHas iss.length i)) ∧ IsMerge w' lo hi m (alSet marks i x) iss now ∧ Mod (fun k => lo ≤ k ∧ k < hi) w w' := by
  obtain ⟨a, s, t0, l0, h0, t1, l1, h1, bi, hB, hn, hr, hxs⟩ := h
  refine (mergeB_Mark m a s t0 l0 h0 marks _ t1 l1 h1 marks _ bi iss i x w hB).mono ?_
  rintro e w' ⟨he, hb, hm⟩
  refine ⟨he, ⟨a, s, t0, l0, h0, t1, l1, h1, bi, hb, hn, hr, fun y hy => ?_⟩, hm.mono (fun k _ hk => ?_)⟩
  · rcases alSet_mem hy with hy | rfl; exact hxs y hy; exact hx
  · unfold RngM at hk; omega
theorem merge_Is (lo hi m : Nat) (marks iss : List Int) (now i x : Int) (w : World) (h : IsMerge w lo hi m marks iss now) :
    Calls Try.prog 42 #[.pointer (some ⟨m, 0, none⟩), .int .i64 i, .int .i64 x] w fun e w' => e = .returned (.bool (treeHas iss.length i)) ∧ IsMerge w' lo hi m marks (alSet iss i x) now ∧ Mod (fun k => lo ≤ k ∧ k < hi) w w' := by
  obtain ⟨a, s, t0, l0, h0, t1, l1, h1, bi, hB, hn, hr, hxs⟩ := h
  refine (mergeB_Is m a s t0 l0 h0 marks _ t1 l1 h1 marks _ bi iss i x w hB).mono ?_
  rintro e w' ⟨he, hb, hm⟩
  rw [outOf_set, outOf_set] at hb
  refine ⟨he, ⟨a, s, t0, l0, h0, t1, l1, h1, bi, hb, hn, hr, hxs⟩, hm.mono (fun k _ hk => ?_)⟩
  unfold RngM at hk; omega
theorem merge_At (lo hi m : Nat) (marks iss : List Int) (now i : Int) (w : World) (h : IsMerge w lo hi m marks iss now) :
    Calls Try.prog 47 #[.pointer (some ⟨m, 0, none⟩), .int .i64 i] w fun e w' => e = .returned (.int .i64 (treeKey marks i)) ∧ w = w' := by
  obtain ⟨a, s, t0, l0, h0, t1, l1, h1, bi, hB, hn, hr, hxs⟩ := h
  have c2 := hB.c2
  have HB := hid' hB
  clear hB
  go_enter Try.func47, Try.ntmps47
  go_wp2_with fail
  refine (tree_Key l0 h0 t0 marks (outOf 0 iss) i _ HB.out.2.1).mono ?_
  rintro e w' ⟨rfl, rfl⟩
  go_wp2
  go_ret
  exact ⟨rfl, rfl⟩
theorem merge_Now (lo hi m : Nat) (marks iss : List Int) (now : Int) (w : World) (h : IsMerge w lo hi m marks iss now) :
    Calls Try.prog 45 #[.pointer (some ⟨m, 0, none⟩)] w fun e w' => e = .returned (.int .i64 now) ∧ w = w' := by
  obtain ⟨a, s, t0, l0, h0, t1, l1, h1, bi, hB, rfl, hr, hxs⟩ := h
  have HB := hid' hB
  clear hB
  go_enter Try.func45, Try.ntmps45
  go_wp2_with fail
  refine (clamp_NowI m 0 _ _ a s _ HB.out.1 rfl rfl).mono ?_
  rintro e w' ⟨rfl, rfl⟩
  go_wp2
  go_ret
  exact ⟨rfl, rfl⟩
set_option maxRecDepth 100000 in
theorem merge_Least (lo hi m : Nat) (marks iss : List Int) (now : Int) (w : World) (h : IsMerge w lo hi m marks iss now) :
    Calls Try.prog 44 #[.pointer (some ⟨m, 0, none⟩)] w fun e w' => e = .returned (.int .i64 (mergeLeast marks iss)) ∧ w = w' := by
  obtain ⟨a, s, t0, l0, h0, t1, l1, h1, bi, hB, hn, hr, hxs⟩ := h
  have c2 := hB.c2
  have c3 := hB.c3
  have HT0 := hid' (tree_Least l0 h0 t0 marks (outOf 0 iss) w hB.2.1)
  have HT1 := hid' (tree_Least l1 h1 t1 marks (outOf 1 iss) w hB.2.2.1)
  have HE := hid' (show mergeLeast marks iss = if treeLO marks (outOf 0 iss) = true then treeLK marks (outOf 0 iss) else if treeLO marks (outOf 1 iss) = true then treeLK marks (outOf 1 iss) else 9223372036854775807 from rfl)
  clear hB hn
  generalize treeLO marks (outOf 0 iss) = b0 at *
  generalize treeLO marks (outOf 1 iss) = b1 at *
  generalize treeLK marks (outOf 0 iss) = x0 at *
  generalize treeLK marks (outOf 1 iss) = x1 at *
  have hi0 : ∀ W : World, (Instr.index 92 (.agg #[.pointer (some ⟨t0, 0, none⟩), .pointer (some ⟨t1, 0, none⟩)]) (.int .i64 0)).run Try.prog W = .ok (.pointer (some ⟨t0, 0, none⟩)) W := fun W => by kernel_rfl
  have hi1 : ∀ W : World, (Instr.index 92 (.agg #[.pointer (some ⟨t0, 0, none⟩), .pointer (some ⟨t1, 0, none⟩)]) (.int .i64 1)).run Try.prog W = .ok (.pointer (some ⟨t1, 0, none⟩)) W := fun W => by kernel_rfl
  go_enter Try.func44, Try.ntmps44
  go_wp2
  go_loop [12] (fun v12 => ∃ k : Nat, k ≤ 2 ∧ v12 = .int .i64 k ∧ Hid (1 ≤ k → b0 = false) ∧ Hid (2 ≤ k → b1 = false)) (fun v12 => 2 - (intOf v12).toNat)
  case atStart => exact ⟨0, by omega, rfl, fun h => by omega, fun h => by omega⟩
  case round =>
    obtain ⟨k, hk, rfl, HF0, HF1⟩ := hrel
    obtain rfl | rfl | rfl : k = 0 ∨ k = 1 ∨ k = 2 := by omega
    · cases b0
      · go_wp2_with fail
        refine HT0.out.mono ?_
        rintro e w' ⟨rfl, rfl⟩
        go_wp2
        go_round
        case rel => exact ⟨1, by omega, rfl, (fun _ => by trivial), (fun h => by omega)⟩
        case measure => simp [intOf]
      · go_wp2_with fail
        refine HT0.out.mono ?_
        rintro e w' ⟨rfl, rfl⟩
        go_wp2
        go_ret
        exact ⟨ret_int (by rw [HE.out]; rfl), rfl⟩
    · have hb := HF0.out (by omega)
      subst hb
      cases b1
      · go_wp2_with fail
        refine HT1.out.mono ?_
        rintro e w' ⟨rfl, rfl⟩
        go_wp2
        go_round
        case rel => exact ⟨2, by omega, rfl, (fun _ => by trivial), (fun h => by trivial)⟩
        case measure => simp [intOf]
      · go_wp2_with fail
        refine HT1.out.mono ?_
        rintro e w' ⟨rfl, rfl⟩
        go_wp2
        go_ret
        exact ⟨ret_int (by rw [HE.out]; rfl), rfl⟩
    · have hb := HF0.out (by omega)
      have hb1 := HF1.out (by omega)
      subst hb hb1
      go_wp2
      go_ret
      exact ⟨ret_int (by rw [HE.out]; rfl), rfl⟩
def advAt (now least : Int) : Int := if now < least then least else 0
theorem merge_Advance (lo hi m : Nat) (marks iss : List Int) (now : Int) (w : World) (h : IsMerge w lo hi m marks iss now) :
    Calls Try.prog 43 #[.pointer (some ⟨m, 0, none⟩)] w fun e w' => e = .returned (.tuple #[.int .i64 (advAt now (mergeLeast marks iss)), .bool (decide (now < mergeLeast marks iss))]) ∧
      IsMerge w' lo hi m marks iss (max now (mergeLeast marks iss)) ∧ Mod (fun k => lo ≤ k ∧ k < hi) w w' := by
  have HI := hid' h
  obtain ⟨a, s, t0, l0, h0, t1, l1, h1, bi, hB, hn, hr, hxs⟩ := h
  have HL := hid' fun (wx : World) (hw : Dr w wx) => merge_Least lo hi m marks iss now wx (HI.out.mod (hw.mod (S := fun _ => False)) (fun _ _ _ h => h))
  have HLI := hid' (mergeLeast_I64 iss hxs)
  have HB := hid' hB
  have HN := hid' hn
  have HNow := hid' (clNow_raise a s (mergeLeast marks iss))
  rw [HN.out] at HNow
  have HAt := hid' (show advAt now (mergeLeast marks iss) = if now < mergeLeast marks iss then mergeLeast marks iss else 0 from rfl)
  clear hB hn
  generalize mergeLeast marks iss = least at *
  have hR := hid' (clamp_RaiseI m 0 96 _ a s least w.drew (show Blk w.drew m _ _ from HB.out.1) rfl rfl)
  rw [HN.out] at hR
  go_enter Try.func43, Try.ntmps43
  go_wp2
  go_region_with (first
    | (go_at_call 44; refine (HL.out _ (by repeat (first | exact Dr.refl _ | apply Dr.step | apply Dr.stepd))).mono ?_; rintro e w' ⟨rfl, rfl⟩)
    | (go_at_call 55; refine (hR.out).mono ?_; rintro e w' ⟨rfl, hb, hm⟩))
  all_goals
    have HI2 := hid' (show IsMerge w' lo hi m marks iss (max now least) from ⟨clA a s least, clS a s least, t0, l0, h0, t1, l1, h1, bi, by
      have hd : Mod (fun k => k = m) w w' := (Mod.refl _ w).drew.trans hm
      refine ⟨by simpa using hb, HB.out.2.1.mod hd (by intro k e1 e2 e3; have := HB.out.2.2.2.2.1; omega), HB.out.2.2.1.mod hd (by intro k e1 e2 e3; have := HB.out.2.2.2.2.1; omega), HB.out.2.2.2.1.mod hd (fun e => HB.out.mb e.symm), HB.out.2.2.2.2.1, HB.out.2.2.2.2.2.1, HB.out.2.2.2.2.2.2.1, I64.clA HB.out.2.2.2.2.2.2.2 HLI.out⟩, HNow.out, hr, hxs⟩)
    have HM := hid' (show Mod (fun k => lo ≤ k ∧ k < hi) w w' from (Mod.refl _ w).drew.trans (hm.mono (by rintro k _ rfl; exact hr.1)))
    have HW := hid' (merge_Now lo hi m marks iss (max now least) w' HI2.out)
    clear hb hm
    by_cases hlt : now < least
    · have hd : decide (now < least) = true := decide_eq_true hlt
      have HA := hid' (show advAt now least = least by rw [HAt.out, if_pos hlt])
      have HD := hid' hd
      rw [hd]
      have HMx := hid' (show max now least = least by omega)
      clear hlt hd
      go_wp2_with (go_at_call 45; refine (HW.out).mono ?_; rintro e w' ⟨rfl, rfl⟩)
      go_ret2
      exact ⟨by rw [HMx.out, HA.out, HD.out]; rfl, HI2.out, HM.out⟩
    · have hd : decide (now < least) = false := decide_eq_false hlt
      have HA := hid' (show advAt now least = 0 by rw [HAt.out, if_neg hlt])
      have HD := hid' hd
      rw [hd]
      clear hlt hd
      go_wp2
      go_ret2
      exact ⟨by rw [HA.out, HD.out]; rfl, HI2.out, HM.out⟩
end Go.Proofs.Ytnihefhnffnjoaa
