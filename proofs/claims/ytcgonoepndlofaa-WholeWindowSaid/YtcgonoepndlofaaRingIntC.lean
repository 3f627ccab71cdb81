
/- All that a ring holds: a ring of whole numbers. No condition. -/
import Derived.Test.YtcgonoepndlofaaRingIntB
import Derived.Deep.AppendLies
namespace Go.Proofs.Ytcgonoepndlofaa
set_option maxRecDepth 100000
set_option linter.unusedSimpArgs false
open Go.RowKit
set_option linter.unusedVariables false

set_option maxRecDepth 100000 in
theorem ringInt_All (g b n : Nat) (q : List Int) (w : World) (h : RingInt w g b n q) (hm : n ≤ 1000000) :
    Calls Try.prog 38 #[.pointer (some ⟨g, 0, none⟩)] w fun e w' => ∃ v, e = .returned v ∧ w'.ownsRow w.heap.size 3 1 v q.length (q.map (Value.int .i64)) ∧ Below w.heap.size w w' := by
  have HC := hid' h
  obtain ⟨first, cs, h, hb, hh⟩ := h
  have h2 : w.cell? ⟨g, 2, none⟩ = some (.int .i64 q.length) := by simpa using h.cell 2
  have hql := hh.2.2.1
  have hfl := hh.2.1
  have hmk := mk0_run (P := Try.prog) 22 3 (.int .i64 0) 1 8 Try.underlying22 (by kernel_rfl) q.length (by omega) (by omega)
  have HG := hid' h
  have HB := hid' hb
  have HH := hid' hh
  have hgl := h.lt
  have hbl := hb.lt
  clear h hb hh
  obtain ⟨i0, hi0, hz0, hz1, hz2⟩ := info_parts (show (Try.prog.info? 3).map (fun i => (i.zero, i.size, i.bytes)) = some (some (.int .i64 0), 1, 8) by kernel_rfl)
  have HI := hid' hi0
  have HZ0 := hid' hz0
  have HZ1 := hid' hz1
  have HZ2 := hid' hz2
  clear hi0 hz0 hz1 hz2
  go_enter Try.func38, Try.ntmps38
  go_wp2
  have HO0 := hid' (own_mk0 w w.heap.size 3 #[(.int .i64 0)] 1 q.length (Nat.le_refl _) (by omega))
  have hB0 : Below w.heap.size w (w.alloc (.cells (madeCells #[(.int .i64 0)] (q.length * 1)) 3)) := (by repeat (first | assumption | apply bel_alloc | apply bel_drewN | apply bel_drew | exact bel_refl _))
  clear hmk
  go_loopw [3, 14] (fun v3 v14 wr => ∃ k : Nat, k ≤ q.length ∧ v14 = .int .i64 k ∧ Below w.heap.size w wr ∧ wr.ownsRow w.heap.size 3 1 v3 k ((q.take k).map (Value.int .i64))) (fun _ v14 _ => q.length - (intOf v14).toNat)
  case atStart => exact ⟨0, Nat.zero_le _, rfl, by simpa using hB0, by simpa using HO0.out⟩
  case round =>
    obtain ⟨k, hk, rfl, hbw, hown⟩ := hrel
    have HO := hid' hown
    have hsz := hbw.size
    have hog : u3.ownBlock ≠ some g := fun e => by have := own_base' hown g e; omega
    have hob : u3.ownBlock ≠ some b := fun e => by have := own_base' hown b e; omega
    clear hown
    by_cases hlt : k < q.length
    · obtain ⟨x, hx, hxc⟩ := HH.out.at_ hlt
      have hbw' := hbw.mono (show w.heap.size ≤ w.heap.size from Nat.le_refl _)
      have HG1 := hid' (HG.out.below hbw)
      have h0 : wr.cell? ⟨g, 0, none⟩ = some (.slice (some ⟨b, 0, none⟩) n n) := by simpa using HG1.out.cell 0
      have hlt2 := Nat.mod_lt (first + k) (show 0 < n by omega)
      have hb0 : wr.cell? ⟨b, (first + k) % n, none⟩ = some ((Value.int .i64) x) := by rw [(HB.out.below hbw).cell]; exact hxc
      have HP := hid' fun (wx : World) (hw : Dr wr wx) => ringInt_place g b n first q.length k wx (by obtain ⟨m, rfl⟩ := hw; exact HG1.out) (by omega) hfl (by omega) hm
      have HT := hid' (take_snoc' hx)
      clear hx hxc
      generalize (first + k) % n = M at *
      have hM0 : (0 : Int) ≤ (M : Int) := by omega
      have hM1 : (M : Int) < (n : Int) := by omega
      have hgr : g < wr.heap.size := by omega
      have hbr : b < wr.heap.size := by omega
      have hlen : ((q.take k).map (Value.int .i64)).length = k := by simp; omega
      have HL := hid' hlen
      clear hlen h2
      go_wp2_with fail
      go_region_held3 (fun w' => w'.cell? ⟨g, 0, none⟩ = some (.slice (some ⟨b, 0, none⟩) n n) ∧ w'.cell? ⟨b, M, none⟩ = some ((Value.int .i64) x))
        (first
          | go_keep
          | (go_split_ands
             refine ⟨?_, ?_⟩
             · (rw [hgrow.cell_far _ (by simp; omega) (Ne.symm hog)]; simp [*])
             · (rw [hgrow.cell_far _ (by simp; omega) (Ne.symm hob)]; simp [*])))
        (first
          | (go_at_call 67; refine (HP.out _ (by repeat (first | exact Dr.refl _ | apply Dr.step | apply Dr.stepd))).mono ?_; rintro e w' ⟨rfl, nd, rfl⟩)
          | ((
             refine step_append_lies _ ?_ (.tmp 17) (.tmp 27) 22 ?_ w.heap.size 3 i0 _ 1 8 Try.underlying22 HI.out HZ0.out HZ1.out HZ2.out rfl (Nat.le_refl 1) u3 k ((q.take k).map (Value.int .i64)) ?_ ?_ ⟨wr.heap.size, 0, none⟩ 1 1 [(Value.int .i64) x] ?_ rfl ?_ ?_ (Nat.le_refl 1) ?_ ?_ ?_ (wr.heap.size + 1) ?_ ?_
             rfl
             rfl
             rfl
             (first | exact HO.out.alloc _ | exact (World.ownsRow.alloc (show (wr.drewN _).ownsRow _ _ _ _ _ _ from HO.out) _))
             rfl
             exact World.news_of_block (cs := #[(Value.int .i64) x]) (t := 3) (fr := (0, 0)) (heap_alloc_new _ _)
             exact List.forall_mem_singleton.2 rfl
             (unfold maxLen; omega)
             omega
             (simp; omega)
             simp
             intro gg cap w1 hown1 hgrow hat hltg)))
      have hb1 : Below w.heap.size w w1 := bel_mod (by first | exact bel_alloc (bel_drewN hbw _) _ | exact bel_drewN (bel_alloc hbw _) _) (Mod.of_grown hgrow) (fun i hi e => by have := own_base' HO.out i e; omega)
      have HO1 := hid' hown1
      clear hown1 hgrow hat
      go_wp2
      go_roundw
      case rel => exact ⟨k + 1, by omega, by go_num, hb1, by rw [HT.out]; simpa using HO1.out⟩
      case measure => simp [intOf]; omega
    · go_wp2
      go_ret
      refine ⟨_, rfl, ?_, hbw⟩
      have hkq : k = q.length := by omega
      have := HO.out
      rw [List.take_of_length_le (by omega), hkq] at this
      exact this
end Go.Proofs.Ytcgonoepndlofaa
