
/- The laws of layer 15 (idle), walked. No condition. -/
import Derived.Test.YtnihefhnffnjoaaIdle
import Derived.Test.YtnihefhnffnjoaaCells
namespace Go.Proofs.Ytnihefhnffnjoaa
open Go.RowKit
set_option linter.unusedVariables false

/-- A clock, and who is silent or not by it: all that the law's memory holds. -/
def SIdle (w0 w : World) (c g : Nat) (now t u is : Int) (ex : List (Nat × TypeId × Array Value)) : Prop :=
  Below w0.heap.size w0 w ∧ w0.heap.size ≤ c ∧ w0.heap.size ≤ g ∧ Blk w c 25 #[.int .i64 now] ∧ IdleB w g t u is ∧ g ≠ c ∧ I64 now ∧ I64 t ∧ Keep w ex (fun k => k = c ∨ k = g)
section
variable {w0 w : World} {c g : Nat} {now t u is : Int} {ex : List (Nat × TypeId × Array Value)}
theorem SIdle.go (by_ : Int) (h : SIdle w0 w c g now t u is ex) (hb : I64 by_) :
    Calls Try.prog 15 #[.pointer (some ⟨c, 0, none⟩), .int .i64 by_] w fun e w' => e = .returned (.bool (decide (0 ≤ by_))) ∧ SIdle w0 w' c g (clockGo now by_) t u is ex := by
  obtain ⟨h1, h2, h3, h4, h5, h6, h7, h8, h9⟩ := h
  refine (clock_Go c 0 now by_ w (by simpa using h4.cell 0) (h4.frozen 0) h7 hb).mono ?_
  rintro e w' ⟨rfl, rfl⟩
  have hm : Mod (fun k => k = c) w (w.setCell ⟨c, 0, none⟩ (.int .i64 (clockGo now by_))) := (Mod.refl (fun k => k = c) w).setCell (p := ⟨c, 0, none⟩) (fun _ => rfl) _
  exact ⟨rfl, bel_mod h1 hm (by intro i hi; omega), h2, h3, (h4.set 0 _).cast (by simp), h5.mod hm h6, h6, I64.clockGo h7, h8, h9.mod hm (by intro k hk; exact .inl hk)⟩
theorem SIdle.tick (h : SIdle w0 w c g now t u is ex) :
    Calls Try.prog 16 #[.pointer (some ⟨g, 0, none⟩), .pointer (some ⟨c, 0, none⟩)] w fun e w' => e = .returned (.bool (iTickB is u now)) ∧ SIdle w0 w' c g now t u (iTickIs is u now) ex := by
  obtain ⟨h1, h2, h3, h4, h5, h6, h7, h8, h9⟩ := h
  refine (idle_Tick g c 0 now t u is w h5 (by simpa using h4.cell 0)).mono ?_
  rintro e w' ⟨rfl, hi, hm⟩
  exact ⟨rfl, bel_mod h1 hm (by intro i hi; omega), h2, h3, h4.mod hm (fun e => h6 e.symm), hi, h6, h7, h8, h9.mod hm (by intro k hk; exact .inr hk)⟩
theorem SIdle.read (h : SIdle w0 w c g now t u is ex) :
    Calls Try.prog 18 #[.pointer (some ⟨g, 0, none⟩), .pointer (some ⟨c, 0, none⟩)] w fun e w' => e = .returned (.bool (!idleOver is)) ∧ SIdle w0 w' c g now t (iReadU is u now t) (iEnd is 0) ex := by
  obtain ⟨h1, h2, h3, h4, h5, h6, h7, h8, h9⟩ := h
  refine (idle_Read g c 0 now t u is w h5 (by simpa using h4.cell 0) h6 h7 h8).mono ?_
  rintro e w' ⟨rfl, hi, hm⟩
  exact ⟨rfl, bel_mod h1 hm (by intro i hi; omega), h2, h3, h4.mod hm (fun e => h6 e.symm), hi, h6, h7, h8, h9.mod hm (by intro k hk; exact .inr hk)⟩
theorem SIdle.end_ (h : SIdle w0 w c g now t u is ex) :
    Calls Try.prog 20 #[.pointer (some ⟨g, 0, none⟩)] w fun e w' => e = .returned (.bool (!idleOver is)) ∧ SIdle w0 w' c g now t u (iEnd is 2) ex := by
  obtain ⟨h1, h2, h3, h4, h5, h6, h7, h8, h9⟩ := h
  refine (idle_End g t u is w h5).mono ?_
  rintro e w' ⟨rfl, hi, hm⟩
  exact ⟨rfl, bel_mod h1 hm (by intro i hi; omega), h2, h3, h4.mod hm (fun e => h6 e.symm), hi, h6, h7, h8, h9.mod hm (by intro k hk; exact .inr hk)⟩
theorem SIdle.fail_ (h : SIdle w0 w c g now t u is ex) :
    Calls Try.prog 21 #[.pointer (some ⟨g, 0, none⟩)] w fun e w' => e = .returned (.bool (!idleOver is)) ∧ SIdle w0 w' c g now t u (iEnd is 3) ex := by
  obtain ⟨h1, h2, h3, h4, h5, h6, h7, h8, h9⟩ := h
  refine (idle_Fail g t u is w h5).mono ?_
  rintro e w' ⟨rfl, hi, hm⟩
  exact ⟨rfl, bel_mod h1 hm (by intro i hi; omega), h2, h3, h4.mod hm (fun e => h6 e.symm), hi, h6, h7, h8, h9.mod hm (by intro k hk; exact .inr hk)⟩
theorem SIdle.isc (h : SIdle w0 w c g now t u is ex) :
    Calls Try.prog 17 #[.pointer (some ⟨g, 0, none⟩)] w fun e w' => e = .returned (.int .i64 is) ∧ w = w' := idle_Is g t u is w h.2.2.2.2.1
theorem SIdle.over (h : SIdle w0 w c g now t u is ex) :
    Calls Try.prog 22 #[.pointer (some ⟨g, 0, none⟩)] w fun e w' => e = .returned (.bool (idleOver is)) ∧ w = w' := idle_Over g t u is w h.2.2.2.2.1
theorem SIdle.below (h : SIdle w0 w c g now t u is ex) : Below w0.heap.size w0 w := h.1
theorem SIdle.new_ (hB : Below w0.heap.size w0 w) (hcb : w0.heap.size ≤ c) (hc : Blk w c 25 #[.int .i64 now]) (hn : I64 now) (ht : I64 t) :
    Calls Try.prog 14 #[.pointer (some ⟨c, 0, none⟩), .int .i64 t] w fun e w' => ∃ g, e = .returned (.pointer (some ⟨g, 0, none⟩)) ∧ SIdle w0 w' c g now t (satAdd now (max t 0)) 0 [] := by
  refine (idle_New c 0 now t w (by simpa using hc.cell 0) hn ht).mono ?_
  rintro e w' ⟨g, rfl, hg, hi, hb⟩
  have := hc.lt
  have := hB.size
  exact ⟨g, rfl, bel_then hB hb, hcb, by omega, hc.below hb, hi, by omega, hn, ht, Keep.nil _ _⟩
/-- One block more. -/
theorem SIdle.alloc (h : SIdle w0 w c g now t u is []) (T : TypeId) (cs : Array Value) : SIdle w0 (w.alloc (.cells cs T)) c g now t u is [(w.heap.size, T, cs)] := by
  obtain ⟨h1, h2, h3, h4, h5, h6, h7, h8, h9⟩ := h
  have l1 := h4.lt
  have l2 := Blk.lt h5
  refine ⟨bel_alloc h1 _, h2, h3, h4.alloc _, Blk.alloc h5 _, h6, h7, h8, fun x hx => ?_⟩
  rw [List.mem_singleton] at hx
  subst hx
  exact ⟨Blk.new_ _ _ _, by show ¬ (w.heap.size = c ∨ w.heap.size = g); omega⟩
theorem SIdle.drop (h : SIdle w0 w c g now t u is ex) : SIdle w0 w c g now t u is [] := by
  obtain ⟨h1, h2, h3, h4, h5, h6, h7, h8, h9⟩ := h
  exact ⟨h1, h2, h3, h4, h5, h6, h7, h8, Keep.nil _ _⟩
theorem SIdle.cast {now' u' is' : Int} (h : SIdle w0 w c g now t u is ex) (e1 : now = now') (e2 : u = u') (e3 : is = is') : SIdle w0 w c g now' t u' is' [] := by
  subst e1 e2 e3; exact h.drop
theorem SIdle.x1 {b : Nat} {T : TypeId} {v0 v1 : Value} (h : SIdle w0 w c g now t u is [(b, T, #[v0, v1])]) : w.cell? ⟨b, 1, none⟩ = some v1 := by
  simpa using (h.2.2.2.2.2.2.2.2 _ (List.mem_singleton.2 rfl)).1.cell 1
theorem SIdle.x0 {b : Nat} {T : TypeId} {v0 v1 : Value} (h : SIdle w0 w c g now t u is [(b, T, #[v0, v1])]) : w.cell? ⟨b, 0, none⟩ = some v0 := by
  simpa using (h.2.2.2.2.2.2.2.2 _ (List.mem_singleton.2 rfl)).1.cell 0
end


theorem law15_speaks (w : World) : Calls Try.prog 13 #[] w fun e w' => e = .returned (.bool true) ∧ Below w.heap.size w w' := by
  go_enter Try.func13, Try.ntmps13
  go_wp2_with fail
  refine (SIdle.new_ (w0 := w) (now := 0) (bel_alloc (bel_refl w) _) (Nat.le_refl _) (Blk.new_ _ _ _) (by unfold I64 at *; omega) (by unfold I64 at *; omega)).mono ?_
  rintro e w1 ⟨g, rfl, hS⟩
  go_wp2_with ((first
    | (go_at_call 15; refine (SIdle.go _ (by assumption) ?_).mono ?_; (first | assumption | (unfold I64; omega)); rintro e w' ⟨rfl, hS⟩)
    | (go_at_call 16; refine (SIdle.tick (by assumption)).mono ?_; rintro e w' ⟨rfl, hS⟩)
    | (go_at_call 18; refine (SIdle.read (by assumption)).mono ?_; rintro e w' ⟨rfl, hS⟩)
    | (go_at_call 20; refine (SIdle.end_ (by assumption)).mono ?_; rintro e w' ⟨rfl, hS⟩)
    | (go_at_call 21; refine (SIdle.fail_ (by assumption)).mono ?_; rintro e w' ⟨rfl, hS⟩)
    | (go_at_call 17; refine (SIdle.isc (by assumption)).mono ?_; rintro e w' ⟨rfl, rfl⟩)
    | (go_at_call 22; refine (SIdle.over (by assumption)).mono ?_; rintro e w' ⟨rfl, rfl⟩)))
  all_goals first
    | (exfalso; simp [iTickB, iTickIs, clockGo, satAdd, idleOver, iEnd, iReadU] at *; done)
    | (go_ret; exact ⟨rfl, SIdle.below (by assumption)⟩)
theorem idleKept (t : Int) (A : Option Addr) (cp : Nat) (l : List Int) (w : World) (ht : (Lit.int .i64 t).wf = true) (hr : Rd w A (l.map (.int .u16))) (hl : ∀ x ∈ l, (Lit.int .u16 x).wf = true) (hn : l.length ≤ maxLen) :
    Calls Try.prog 3 #[.int .i64 t, .slice A l.length cp] w fun e w' => e = .returned (.bool true) ∧ Below w.heap.size w w' := by
  have hn' : l.length ≤ 9223372036854775807 := hn
  have HT := hid' (I64.of_wf ht)
  have HR := hid' hr
  have HL := hid' hl
  clear hr hl ht hn
  go_enter Try.func3, Try.ntmps3
  go_wp2_with fail
  refine (law15_speaks w).mono ?_
  rintro e w1 ⟨rfl, hB⟩
  by_cases h1 : t < 1
  · go_wp2
    go_ret
    exact ⟨rfl, hB⟩
  by_cases h2 : 200 < l.length
  · go_wp2
    go_ret
    exact ⟨rfl, hB⟩
  have h1' : 1 ≤ t := by omega
  have h1'' : 0 ≤ t := by omega
  have HR1 := hid' (HR.out.below hB)
  have HB := hid' hB
  have HI := hid' (show I64 0 by unfold I64; omega)
  clear HR hB
  go_wp2_with fail
  refine (SIdle.new_ (w0 := w1) (now := 0) (bel_alloc (bel_refl w1) _) (Nat.le_refl _) (Blk.new_ _ _ _) HI.out HT.out).mono ?_
  rintro e w2 ⟨g, rfl, hS⟩
  have HS := hid' hS
  clear hS
  go_wp2
  go_loopw [22] (fun v22 wr => ∃ (k : Nat) (now u : Int), k ≤ l.length ∧ v22 = .int .i64 k ∧ SIdle w1 wr w1.heap.size g now t u 0 [] ∧ Hid (0 ≤ now ∧ now ≤ 65536 * k ∧ u = satAdd now (max t 0))) (fun v22 _ => l.length - (intOf v22).toNat)
  case atStart => exact ⟨0, 0, _, by omega, rfl, HS.out, by refine ⟨?_, ?_, rfl⟩ <;> omega⟩
  case round =>
    obtain ⟨k, now, u, hk, rfl, hS, HU⟩ := hrel
    by_cases hlt : k < l.length
    · obtain ⟨ad, x, rfl, hx, hcx⟩ := Rd.at_ (HR1.out.below hS.below) hlt
      have hxb := wf_u16 (HL.out x (mem_of_get hx))
      obtain ⟨hx0, hx1⟩ := hxb
      obtain ⟨u0, u1, u2⟩ := HU.out
      have hb0 := Int.emod_nonneg x (show min t 65536 ≠ 0 by omega)
      have hb1 := Int.emod_lt_of_pos x (show 0 < min t 65536 by omega)
      obtain ⟨b, hb⟩ : ∃ b, x % min t 65536 = b := ⟨_, rfl⟩
      rw [hb] at hb0 hb1
      have hT := HT.out
      unfold I64 at hT
      have F0 := hid' (show clockGo now b = now + b by unfold clockGo satAdd; rw [if_neg (by omega), if_neg (by omega), if_neg (by omega)])
      have hlt2 : now + b < u := by rw [u2]; unfold satAdd; split <;> (try split) <;> omega
      have F1 : iTickB 0 u (clockGo now b) = false := by rw [F0.out]; unfold iTickB; exact decide_eq_false (by omega)
      have F2 : iTickIs 0 u (clockGo now b) = 0 := by rw [F0.out]; unfold iTickIs; exact if_neg (by omega)
      have F3 : idleOver 0 = false := rfl
      have F4 : iEnd 0 0 = 0 := rfl
      have hbI : I64 b := by unfold I64; omega
      have G1 := hid' (show 0 ≤ clockGo now b ∧ clockGo now b ≤ 65536 * ((k : Int) + 1) ∧ iReadU 0 u (clockGo now b) t = satAdd (clockGo now b) (max t 0) by
        rw [F0.out]; exact ⟨by omega, by omega, rfl⟩)
      clear HU u0 u1 u2 hT hlt2 hb0 hb1 hx
      go_wp2_with ((first
        | (go_at_call 15; refine (SIdle.go _ (by assumption) ?_).mono ?_; (first | assumption | (unfold I64; omega)); rintro e w' ⟨rfl, hS⟩)
        | (go_at_call 16; refine (SIdle.tick (by assumption)).mono ?_; rintro e w' ⟨rfl, hS⟩)
        | (go_at_call 18; refine (SIdle.read (by assumption)).mono ?_; rintro e w' ⟨rfl, hS⟩)
        | (go_at_call 20; refine (SIdle.end_ (by assumption)).mono ?_; rintro e w' ⟨rfl, hS⟩)
        | (go_at_call 21; refine (SIdle.fail_ (by assumption)).mono ?_; rintro e w' ⟨rfl, hS⟩)
        | (go_at_call 17; refine (SIdle.isc (by assumption)).mono ?_; rintro e w' ⟨rfl, rfl⟩)
        | (go_at_call 22; refine (SIdle.over (by assumption)).mono ?_; rintro e w' ⟨rfl, rfl⟩)))
      go_roundw
      case rel => exact ⟨k + 1, _, _, by omega, by go_num, by rw [F2, F4] at hS; exact hS, by unfold Hid; simpa using G1.out⟩
      case measure => simp [intOf]; omega
    · go_wp2
      go_ret
      exact ⟨rfl, bel_then HB.out hS.below⟩
end Go.Proofs.Ytnihefhnffnjoaa
