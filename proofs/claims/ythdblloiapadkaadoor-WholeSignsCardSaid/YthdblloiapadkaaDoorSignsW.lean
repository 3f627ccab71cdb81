
/- The signs of a text as the program finds them: quote.Signs, walked. No condition but the tables of Go's own. -/
import Derived.Test.YthdblloiapadkaaDoorSignHas
namespace Go.Proofs.YthdblloiapadkaaDoor
set_option maxRecDepth 100000
set_option linter.unusedSimpArgs false
open Go.RowKit
set_option linter.unusedVariables false
set_option linter.unusedSimpArgs false

def GSt (w0 W : World) (it : Nat) (s : ByteArray) (pos : Nat) (v : Value) (k : Nat) (l : List Int) : Prop := It W it s pos ∧ W.ownsRow (it + 1) 3 1 v k (l.map iV) ∧ Below w0.heap.size w0 W ∧ w0.heap.size ≤ it
section
variable {w0 W W' : World} {it pos k : Nat} {s : ByteArray} {v : Value} {l : List Int}
theorem GSt.below (h : GSt w0 W it s pos v k l) (hb : Below W.heap.size W W') : GSt w0 W' it s pos v k l := ⟨h.1.below hb, own_below h.2.1 hb, bel_then h.2.2.1 hb, h.2.2.2⟩
theorem GSt.next (h : GSt w0 W it s pos v k l) (p2 : Nat) : GSt w0 (W.iterAt it s p2) it s p2 v k l :=
  ⟨h.1.next p2, own_mod h.2.1 (mod_iterAt it s p2) (fun j hj e => by have := own_base' h.2.1 j hj; omega), bel_iterAt h.2.2.1 h.2.2.2 s p2, h.2.2.2⟩
theorem GSt.grown {v1 : Value} {n : Int} (h : GSt w0 W it s pos v k l) (ho : W'.ownsRow (it + 1) 3 1 v1 (k + 1) (l.map iV ++ [.int .i64 n])) (hg : W.grownBy W' v.ownBlock) : GSt w0 W' it s pos v1 (k + 1) (l ++ [n]) :=
  ⟨((Mod.of_grown hg).block it h.1.lt (fun e => by have := own_base' h.2.1 it e; omega)).trans h.1, by rw [List.map_append]; exact ho, bel_mod h.2.2.1 (Mod.of_grown hg) (fun j hj e => by have := own_base' h.2.1 j e; have := h.2.2.2; omega), h.2.2.2⟩
end
set_option maxHeartbeats 8000000 in
theorem quote_Signs (s : ByteArray) (w : World) (hs : s.size ≤ 200000) (hT : U8T w) :
    Calls Tryd.prog 19 #[.string s] w fun e w' => ∃ v, e = .returned v ∧ w'.ownsRow w.heap.size 3 1 v (signs s).length ((signs s).map iV) ∧ Below w.heap.size w w' := by
  have hs' : s.size ≤ 9223372036854775807 := by omega
  have HT := hid' hT
  have HS0 := hid' (show GSt w (w.iter s 0) w.heap.size s 0 (.slice none 0 0) 0 [] from ⟨It.new_ w s, World.ownsRow_nil _ _ _ _, bel_iter s 0, Nat.le_refl _⟩)
  clear hT
  go_enter Tryd.func19, Tryd.ntmps19
  go_wp2
  go_loopw [3] (fun v3 wr => ∃ k : Nat, GSt w wr w.heap.size s (sSt s k).2 v3 k (sSt s k).1 ∧ (sSt s k).1.length = k) (fun _ wr => s.size - wr.iterPos w.heap.size)
  case atStart => exact ⟨0, HS0.out, rfl⟩
  case round =>
    obtain ⟨k, hG, hlen⟩ := hrel
    have hbd := sSt_bd s k
    have hkk := (sSt_le s k).1
    rw [hlen] at hkk
    by_cases hlt : (sSt s k).2 < s.size
    · have hnxt := sSt_next hlt
      obtain ⟨p, hp⟩ : ∃ p, p = (sSt s k).2 := ⟨_, rfl⟩
      obtain ⟨l, hl⟩ : ∃ l, l = (sSt s k).1 := ⟨_, rfl⟩
      rw [← hp] at hlt hnxt hG hbd hkk
      rw [← hl] at hG hlen hnxt
      have hnx : ∀ ty, (Instr.next (.pointer (some ⟨w.heap.size, 0, none⟩)) true ty).run Tryd.prog wr = _ := fun ty => Lib.run_next_any_at wr w.heap.size s p ty hG.1 hlt
      have hsw := sgW_pos s p
      have hdl := dec_lt s p
      have hG2 := hG.next (p + sgW s p)
      have HMES := hid' (show ∀ W : World, It W w.heap.size s (p + sgW s p) → s.size - W.iterPos w.heap.size < s.size - wr.iterPos w.heap.size from fun W hW => by
        have h1 : 1 ≤ sgW s p := hsw.1
        rw [hW.pos, hG.1.pos]; omega)
      have HST := hid' (quote_stray s p _ hs hlt (HT.out.below hG2.2.2.1))
      have HG2 := hid' hG2
      have HNX := hid' hnxt
      have HLEN := hid' hlen
      change Hid (Calls _ _ _ (wr.iterAt w.heap.size s (p + (Utf8.decode s p).2)) _) at HST
      have hq : (Utf8.decode s p).2 = sgW s p := rfl
      have hsgn : sgN s p = if strayAt s p = true then -(gb s p : Int) - 1 else ((Utf8.decode s p).1 : Int) := rfl
      rw [hq] at hnx HST
      obtain ⟨c, hc⟩ : ∃ c, c = (Utf8.decode s p).1 := ⟨_, rfl⟩
      rw [← hc] at hnx HST hdl hsgn
      have hlti : (p : Int) < (s.size : Int) := by omega
      have h8 : (k + 1) * 8 ≤ 140737488355328 := by omega
      clear hG hG2 hnxt hlen hq hc hsw hp hl
      generalize sgW s p = q at *
      cases hst : strayAt s p with
      | true =>
        rw [hst] at HST hsgn
        rw [if_pos rfl] at hsgn
        have hg := gb_eq s p hlt
        have hgl := gb_lt s p
        have hgs : (s[p]'hlt).toNat = gb s p := hg.symm
        obtain ⟨g, hgg⟩ : ∃ g, g = gb s p := ⟨_, rfl⟩
        rw [← hgg] at hgs hgl hsgn
        rw [hsgn] at HNX
        have hone := hid' (show ∀ u ∈ [(.int .i64 (-(g : Int) - 1) : Value)], u.oneCell' = true by intro u hu; rw [List.mem_singleton] at hu; subst hu; rfl)
        clear hst hsgn hg hgg
        go_wp2_with fail
        refine HST.out.mono ?_
        rintro e w3 ⟨rfl, hB3⟩
        have HG3 := hid' (HG2.out.below hB3)
        have hbase : w.heap.size + 1 ≤ w3.heap.size := HG3.out.1.lt
        clear hB3
        go_wp2_with (at_builtin; (refine ap_cells (w.heap.size + 1) rfl (.tmp 16) (.tmp 23) 27 3 (.int .i64 0) 1 8 rfl (by kernel_rfl) (by kernel_rfl) rfl (by decide) (by decide) _ k (l.map iV) [.int .i64 (-(g : Int) - 1)] rfl (by rfl) rfl hone.out HG3.out.2.1 hbase h8 ?_); intro v1 w4 hown hg hat)
        go_roundw
        case rel => exact ⟨k + 1, by rw [HNX.out]; exact HG3.out.grown hown hg, by rw [HNX.out]; simp [HLEN.out]⟩
        case measure => exact HMES.out _ (HG3.out.grown hown hg).1
      | false =>
        rw [hst] at HST hsgn
        rw [if_neg (by decide)] at hsgn
        rw [hsgn] at HNX
        have hone := hid' (show ∀ u ∈ [(.int .i64 (c : Int) : Value)], u.oneCell' = true by intro u hu; rw [List.mem_singleton] at hu; subst hu; rfl)
        clear hst hsgn
        go_wp2_with fail
        refine HST.out.mono ?_
        rintro e w3 ⟨rfl, hB3⟩
        have HG3 := hid' (HG2.out.below hB3)
        have hbase : w.heap.size + 1 ≤ w3.heap.size := HG3.out.1.lt
        clear hB3
        go_wp2_with (at_builtin; (refine ap_cells (w.heap.size + 1) rfl (.tmp 25) (.tmp 28) 27 3 (.int .i64 0) 1 8 rfl (by kernel_rfl) (by kernel_rfl) rfl (by decide) (by decide) _ k (l.map iV) [.int .i64 (c : Int)] rfl (by rfl) rfl hone.out HG3.out.2.1 hbase h8 ?_); intro v1 w4 hown hg hat)
        go_roundw
        case rel => exact ⟨k + 1, by rw [HNX.out]; exact HG3.out.grown hown hg, by rw [HNX.out]; simp [HLEN.out]⟩
        case measure => exact HMES.out _ (HG3.out.grown hown hg).1
    · have hnx : ∀ ty, (Instr.next (.pointer (some ⟨w.heap.size, 0, none⟩)) true ty).run Tryd.prog wr = _ := fun ty => Lib.run_next_end_at wr w.heap.size s _ ty hG.1 hlt
      have he := sSt_end hlt
      rw [he] at hlen hG
      rw [← hlen] at hG
      have HG := hid' hG
      clear he hG hlen
      go_wp2
      go_ret
      exact ⟨_, rfl, own_lower HG.out.2.1 (by omega), HG.out.2.2.1⟩
end Go.Proofs.YthdblloiapadkaaDoor
