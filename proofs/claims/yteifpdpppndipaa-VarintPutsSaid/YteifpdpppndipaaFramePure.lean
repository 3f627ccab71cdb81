
/- Records as bytes, as a plain law: there and back, one spelling. No program. -/
import Derived.Test.YteifpdpppndipaaLawCrc
import Derived.Test.YteifpdpppndipaaVarPut
import Derived.Test.YteifpdpppndipaaRecRow
namespace Go.Proofs.Yteifpdpppndipaa
set_option maxRecDepth 100000
set_option linter.unusedSimpArgs false
open Go.RowKit
set_option linter.unusedVariables false
set_option linter.unusedSimpArgs false

def kindOk (k : Int) : Bool := k == 1 || k == 2
def headB (r : Rec) : List UInt8 := UInt8.ofNat (r.1 % 256).toNat :: vput (vfold r.2.1)
def recBody (r : Rec) : ByteArray := strOf (headB r) ++ r.2.2
def fCheck (r : Rec) : Int := if kindOk r.1 = true then (if 65536 < (recBody r).size then 4 else 0) else 3
def fFull (r : Rec) : ByteArray := strOf (vput (recBody r).size) ++ cseal (recBody r)
def zRec : Rec := (0, 0, ByteArray.empty)
def fOpen (b : ByteArray) : Rec × Int :=
  if kindOk (((bl b).getD 0 0).toNat : Int) = true then
    if (vget ((bl b).drop 1)).2.2 = 0 then ((((bl b).getD 0 0).toNat, vback (vget ((bl b).drop 1)).1, b.extract (1 + (vget ((bl b).drop 1)).2.1) b.size), 0) else (zRec, (vget ((bl b).drop 1)).2.2)
  else (zRec, 3)
def fGet (s : ByteArray) : Rec × Int × Int :=
  if (vget (bl s)).2.2 = 0 then
    if (vget (bl s)).1 < 2 ∨ 65536 < (vget (bl s)).1 then (zRec, 0, 4) else
    if s.size < (vget (bl s)).2.1 + (vget (bl s)).1 + 4 then (zRec, 0, 1) else
    match copen (s.extract (vget (bl s)).2.1 ((vget (bl s)).2.1 + (vget (bl s)).1 + 4)) with
    | none => (zRec, 0, 5)
    | some b => if (fOpen b).2 = 0 then ((fOpen b).1, ((vget (bl s)).2.1 + (vget (bl s)).1 + 4 : Nat), 0) else (zRec, 0, (fOpen b).2)
  else (zRec, 0, (vget (bl s)).2.2)

theorem bl_app (a b : ByteArray) : bl (a ++ b) = bl a ++ bl b := by unfold bl; rw [ByteArray.data_append]; simp
theorem bl_str (l : List UInt8) : bl (strOf l) = l := rfl
theorem str_bl (s : ByteArray) : strOf (bl s) = s := by
  apply ByteArray.ext
  unfold strOf bl
  apply Array.ext'; simp
theorem bl_inj {a b : ByteArray} (h : bl a = bl b) : a = b := by rw [← str_bl a, ← str_bl b, h]
theorem bl_ext (s : ByteArray) (i j : Nat) : bl (s.extract i j) = ((bl s).drop i).take (j - i) := by
  unfold bl
  rw [ByteArray.data_extract]
  simp [List.take_drop]
theorem size_bl (s : ByteArray) : s.size = (bl s).length := (bl_len s).symm
theorem bl_seal (b : ByteArray) : bl (cseal b) = bl b ++ cbytes (crcStr b) := by unfold cseal; rw [bl_app]; rfl
theorem copen_some {x b : ByteArray} (h : copen x = some b) : cseal b = x ∧ x.size = b.size + 4 := by
  unfold copen at h
  split at h
  · cases h
  · split at h
    · rename_i h1 h2
      simp only [Option.some.injEq] at h
      rw [h] at h2
      exact ⟨h2, by rw [← h2]; exact cseal_size b⟩
    · cases h
theorem recBody_bl (r : Rec) : bl (recBody r) = headB r ++ bl r.2.2 := by unfold recBody; rw [bl_app]; rfl
theorem recBody_size (r : Rec) : (recBody r).size = 1 + (vput (vfold r.2.1)).length + r.2.2.size := by
  rw [size_bl, recBody_bl, List.length_append, ← size_bl]; unfold headB; simp; omega
theorem fOpen_body {r : Rec} (hk : kindOk r.1 = true) (ht : I64 r.2.1) : fOpen (recBody r) = (r, 0) := by
  have hk2 : r.1 = 1 ∨ r.1 = 2 := by unfold kindOk at hk; simpa using hk
  have h0 : (((bl (recBody r)).getD 0 0).toNat : Int) = r.1 := by
    rw [recBody_bl]; unfold headB
    rcases hk2 with h | h <;> rw [h] <;> rfl
  have h1 : (bl (recBody r)).drop 1 = vput (vfold r.2.1) ++ bl r.2.2 := by rw [recBody_bl]; rfl
  have hv := vget_put (vfold r.2.1) (bl r.2.2) (vfold_lt ht)
  unfold fOpen
  rw [h0, if_pos hk, h1, hv]
  simp only [if_true]
  rw [vback_fold]
  have hx : (recBody r).extract (1 + (vput (vfold r.2.1)).length) (recBody r).size = r.2.2 := by
    apply bl_inj
    rw [bl_ext, recBody_bl, show headB r ++ bl r.2.2 = (headB r) ++ bl r.2.2 from rfl, show 1 + (vput (vfold r.2.1)).length = (headB r).length by unfold headB; simp; omega, List.drop_left, List.take_of_length_le]
    rw [recBody_size, ← size_bl]; unfold headB; simp; omega
  rw [hx]
/-- THERE AND BACK. -/
theorem fGet_full {r : Rec} (hc : fCheck r = 0) (ht : I64 r.2.1) (more : ByteArray) : fGet (fFull r ++ more) = (r, ((fFull r).size : Int), 0) := by
  unfold fCheck at hc
  split at hc
  · rename_i hk
    split at hc
    · cases hc
    · rename_i hle
      have hpos := vput_pos (vfold r.2.1)
      have hsz := recBody_size r
      obtain ⟨N, hN⟩ : ∃ N : Nat, N = (recBody r).size := ⟨_, rfl⟩
      have hb : bl (fFull r ++ more) = vput N ++ (bl (cseal (recBody r)) ++ bl more) := by
        unfold fFull; rw [bl_app, bl_app, bl_str, hN, List.append_assoc]
      have hv := vget_put N (bl (cseal (recBody r)) ++ bl more) (by omega)
      rw [← hb] at hv
      have hfs : (fFull r).size = (vput N).length + N + 4 := by
        unfold fFull; rw [size_bl, bl_app, List.length_append, bl_str, ← size_bl, cseal_size, hN]; omega
      have hts : (fFull r ++ more).size = (fFull r).size + more.size := by rw [size_bl, bl_app, List.length_append, ← size_bl, ← size_bl]
      have hx : (fFull r ++ more).extract (vput N).length ((vput N).length + N + 4) = cseal (recBody r) := by
        apply bl_inj
        rw [bl_ext, hb, List.drop_left, show (vput N).length + N + 4 - (vput N).length = (bl (cseal (recBody r))).length by rw [← size_bl, cseal_size]; omega, List.take_left]
      unfold fGet
      rw [hv]
      simp only [if_true]
      rw [if_neg (by omega), if_neg (by omega), hx, copen_seal]
      simp only [fOpen_body hk ht, if_true]
      rw [hfs]
  · cases hc
/-- ONE SPELLING. -/
theorem fGet_one {s : ByteArray} {r : Rec} {n : Int} (h : fGet s = (r, n, 0)) (hs : s.size ≤ 1000000) : ∃ k : Nat, n = (k : Int) ∧ k ≤ s.size ∧ fFull r = s.extract 0 k ∧ fCheck r = 0 ∧ I64 r.2.1 ∧ 0 < k := by
  unfold fGet at h
  split at h
  case isFalse he =>
    injection h with _ h; injection h with _ h
    exact absurd (by exact_mod_cast h) he
  case isTrue he =>
    split at h
    · injection h with _ h; injection h with _ h; cases h
    · rename_i hsz
      split at h
      · injection h with _ h; injection h with _ h; cases h
      · rename_i hend
        split at h
        · injection h with _ h; injection h with _ h; cases h
        · rename_i b hop
          split at h
          · rename_i ho
            injection h with h1 h
            injection h with h2 _
            obtain ⟨q, hq⟩ : ∃ q, q = (vget (bl s)).1 := ⟨_, rfl⟩
            obtain ⟨m, hm⟩ : ∃ m, m = (vget (bl s)).2.1 := ⟨_, rfl⟩
            rw [← hq] at hsz
            rw [← hq, ← hm] at hend hop h2
            obtain ⟨v1, v2, v3⟩ := vget_one (bl s) q m (by rw [hq, hm, ← he])
            obtain ⟨c1, c2⟩ := copen_some hop
            have hxs : (s.extract m (m + q + 4)).size = q + 4 := by rw [size_bl, bl_ext, List.length_take, List.length_drop, ← size_bl]; omega
            have hbs : b.size = q := by omega
            unfold fOpen at h1 ho
            split at ho
            · rename_i hk
              rw [if_pos hk] at h1
              split at ho
              · rename_i hv0
                rw [if_pos hv0] at h1
                obtain ⟨t, htt⟩ : ∃ t, t = (vget ((bl b).drop 1)).1 := ⟨_, rfl⟩
                obtain ⟨d, hd⟩ : ∃ d, d = (vget ((bl b).drop 1)).2.1 := ⟨_, rfl⟩
                obtain ⟨w1, w2, w3⟩ := vget_one ((bl b).drop 1) t d (by rw [htt, hd, ← hv0])
                have hlt : t < 18446744073709551616 := by rw [htt]; exact vgetFrom_lt _ 0 0 (by decide)
                rw [← htt, ← hd] at h1
                have hbl0 : 0 < (bl b).length := by rw [← size_bl]; omega
                have hbody : recBody r = b := by
                  apply bl_inj
                  rw [recBody_bl, ← h1]
                  unfold headB
                  simp only
                  rw [vfold_back hlt, w1, bl_ext]
                  have hc : UInt8.ofNat ((((bl b).getD 0 0).toNat : Int) % 256).toNat = (bl b).getD 0 0 := by
                    have := ((bl b).getD 0 0).toNat_lt
                    rw [show ((((bl b).getD 0 0).toNat : Int) % 256).toNat = ((bl b).getD 0 0).toNat by omega]
                    exact UInt8.ofNat_toNat
                  rw [hc]
                  obtain ⟨c, rest, hcr⟩ : ∃ c rest, bl b = c :: rest := by
                    cases hb : bl b with
                    | nil => rw [hb] at hbl0; simp at hbl0
                    | cons c rest => exact ⟨c, rest, rfl⟩
                  have hsb : b.size = 1 + rest.length := by rw [size_bl, hcr]; simp; omega
                  rw [hcr, hsb]
                  simp only [List.getD_cons_zero, List.drop_succ_cons, List.drop_zero, List.cons_append, List.cons.injEq, true_and]
                  rw [show 1 + d = d + 1 by omega, List.drop_succ_cons, show 1 + rest.length - (d + 1) = rest.length - d by omega, List.take_of_length_le (l := rest.drop d) (by simp), List.take_append_drop]
                refine ⟨m + q + 4, by rw [← h2], by omega, ?_, ?_, ?_, by omega⟩
                · apply bl_inj
                  unfold fFull
                  rw [hbody, hbs, bl_app, bl_str, v1, c1, bl_ext, bl_ext, List.drop_zero, Nat.sub_zero, show m + q + 4 - m = q + 4 by omega, show m + q + 4 = m + (q + 4) by omega]; exact List.take_add.symm
                · unfold fCheck
                  rw [hbody, hbs, ← h1, if_pos hk, if_neg (by omega)]
                · rw [← h1]; exact vback_I64 hlt
              · rename_i hv0
                exact absurd (by have h9 : ((vget ((bl b).drop 1)).2.2 : Int) = 0 := ho; exact_mod_cast h9) hv0
            · cases ho
          · rename_i ho
            injection h with _ h; injection h with _ h
            exact absurd h ho
end Go.Proofs.Yteifpdpppndipaa
