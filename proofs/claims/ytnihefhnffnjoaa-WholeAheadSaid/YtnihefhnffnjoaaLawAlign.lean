
/- The laws of layer 18 (align), walked. No condition. -/
import Derived.Test.YtnihefhnffnjoaaAlign
import Derived.Test.YtnihefhnffnjoaaCells
namespace Go.Proofs.Ytnihefhnffnjoaa
open Go.RowKit
set_option linter.unusedVariables false

theorem own_addr {w : World} {base : Nat} {e : TypeId} {size n : Nat} {v : Value} {xs : List Value} (h : w.ownsRow base e size v n xs) : ∃ A c, v = .slice A n c ∧ n ≤ c ∧ c ≤ maxLen ∧ Rd w A xs ∧ ∀ ad, A = some ad → base ≤ ad.block := by
  obtain ⟨A, c, rfl, h1, h2, h3⟩ := own_rd h
  refine ⟨A, c, rfl, h1, h2, h3, fun ad e => ?_⟩
  subst e
  rcases h.2 with ⟨hv, _⟩ | ⟨g, cap, cur, hv, hb, _⟩
  · cases hv
  · injection hv with hv; injection hv with hv; subst hv; exact hb

abbrev Ex := List (Nat × TypeId × Array Value)
abbrev Rs := List (Option Addr × List Int)
def KeepR (w : World) (rs : Rs) (fp : Nat → Prop) : Prop := ∀ r ∈ rs, Rd w r.1 (r.2.map (.int .i64)) ∧ ∀ ad, r.1 = some ad → ¬ fp ad.block
theorem KeepR.mod {w w' : World} {rs : Rs} {fp S : Nat → Prop} (h : KeepR w rs fp) (hm : Mod S w w') (hs : ∀ k, S k → fp k) : KeepR w' rs fp :=
  fun r hr => ⟨(h r hr).1.mod hm (fun ad e hk => (h r hr).2 ad e (hs _ hk)), (h r hr).2⟩
theorem KeepR.cons {w : World} {rs : Rs} {fp : Nat → Prop} (h : KeepR w rs fp) {A : Option Addr} {xs : List Int} (hr : Rd w A (xs.map (.int .i64))) (hn : ∀ ad, A = some ad → ¬ fp ad.block) : KeepR w ((A, xs) :: rs) fp :=
  fun r hm => by rcases List.mem_cons.1 hm with rfl | hm; exact ⟨hr, hn⟩; exact h r hm

/-- One that holds back; other blocks and rows that stay. -/
def SAl (w0 w : World) (g b : Nat) (drift glob : Int) (L : List Int) (ex : Ex) (rs : Rs) : Prop :=
  Below w0.heap.size w0 w ∧ (w0.heap.size ≤ g ∧ w0.heap.size ≤ b) ∧ AlignB w g b drift glob L ∧ Keep w ex (fun k => k = g ∨ k = b) ∧ KeepR w rs (fun k => k = g ∨ k = b) ∧ L.length ≤ 1000
section
variable {w0 w : World} {g b : Nat} {drift glob : Int} {L : List Int} {ex : Ex} {rs : Rs}
theorem SAl.bel {w' : World} (h : SAl w0 w g b drift glob L ex rs) (hb : Below w.heap.size w w') : SAl w0 w' g b drift glob L ex rs := by
  obtain ⟨h1, h2, h3, h5, h6, h7⟩ := h
  have hm : Mod (fun _ => False) w w' := Mod.of_below hb
  exact ⟨bel_then h1 hb, h2, h3.below hb, h5.mod hm (fun _ h => h.elim), h6.mod hm (fun _ h => h.elim), h7⟩
theorem SAl.dr {w' : World} (h : SAl w0 w g b drift glob L ex rs) (hb : Dr w w') : SAl w0 w' g b drift glob L ex rs := h.bel hb.below
theorem SAl.addR (h : SAl w0 w g b drift glob L ex rs) {A : Option Addr} {xs : List Int} (hr : Rd w A (xs.map (.int .i64))) (hn : ∀ ad, A = some ad → ad.block ≠ g ∧ ad.block ≠ b) : SAl w0 w g b drift glob L ex ((A, xs) :: rs) := by
  obtain ⟨h1, h2, h3, h5, h6, h7⟩ := h
  exact ⟨h1, h2, h3, h5, h6.cons hr (fun ad e => by have := hn ad e; omega), h7⟩
theorem SAl.addE (h : SAl w0 w g b drift glob L ex rs) {k : Nat} {T : TypeId} {cs : Array Value} (hb : Blk w k T cs) (hn : k ≠ g ∧ k ≠ b) : SAl w0 w g b drift glob L ((k, T, cs) :: ex) rs := by
  obtain ⟨h1, h2, h3, h5, h6, h7⟩ := h
  exact ⟨h1, h2, h3, fun x hx => by rcases List.mem_cons.1 hx with rfl | hx; exact ⟨hb, by show ¬ (k = g ∨ k = b); omega⟩; exact h5 x hx, h6, h7⟩
theorem SAl.limit (h : SAl w0 w g b drift glob L ex rs) :
    Calls Try.prog 29 #[.pointer (some ⟨g, 0, none⟩)] w fun e w' => e = .returned (.int .i64 (alLim glob drift)) ∧ SAl w0 w' g b drift glob L ex rs :=
  (align_Limit g b drift glob L w h.2.2.1).mono fun e w' ⟨he, hd⟩ => ⟨he, h.dr hd⟩
theorem SAl.paused (i : Int) (h : SAl w0 w g b drift glob L ex rs) :
    Calls Try.prog 31 #[.pointer (some ⟨g, 0, none⟩), .int .i64 i] w fun e w' => e = .returned (.bool (alPaused L (alLim glob drift) i)) ∧ SAl w0 w' g b drift glob L ex rs :=
  (align_Paused g b drift glob L i w h.2.2.1).mono fun e w' ⟨he, hd⟩ => ⟨he, h.dr hd⟩
theorem SAl.local_ (i x : Int) (h : SAl w0 w g b drift glob L ex rs) (hx : I64 x) :
    Calls Try.prog 28 #[.pointer (some ⟨g, 0, none⟩), .int .i64 i, .int .i64 x] w fun e w' => e = .returned (.bool (decide (0 ≤ i ∧ i < L.length))) ∧ SAl w0 w' g b drift glob (alSet L i x) ex rs := by
  obtain ⟨h1, h2, h3, h5, h6, h7⟩ := h
  refine (align_Local g b drift glob L i x w h3).mono ?_
  rintro e w' ⟨he, ha, hm⟩
  exact ⟨he, bel_mod h1 hm (by intro i hi; omega), h2, ha, h5.mod hm (by intro k hk; omega), h6.mod hm (by intro k hk; omega), by rw [alSet_len]; exact h7⟩
theorem SAl.held (h : SAl w0 w g b drift glob L ex rs) :
    Calls Try.prog 30 #[.pointer (some ⟨g, 0, none⟩)] w fun e w' => ∃ A c, e = .returned (.slice A (alHeld L (alLim glob drift)).length c) ∧ SAl w0 w' g b drift glob L ex ((A, alHeld L (alLim glob drift)) :: rs) := by
  refine (align_Held g b drift glob L w h.2.2.1 h.2.2.2.2.2).mono ?_
  rintro e w' ⟨v, rfl, hown, hb⟩
  obtain ⟨A, c, rfl, -, -, hr, ha⟩ := own_addr hown
  have l1 := h.2.2.1.1.lt
  have l2 := h.2.2.1.2.1.lt
  exact ⟨A, c, rfl, (h.bel hb).addR hr (fun ad e => by have := ha ad e; omega)⟩
def alGl (L : List Int) (glob at_ drift : Int) : List Int := (alHeld L (alLim glob drift)).filter (fun i => !alPaused L (alLim at_ drift) i)
theorem SAl.global (at_ : Int) (h : SAl w0 w g b drift glob L ex rs) (ha : I64 at_) :
    Calls Try.prog 27 #[.pointer (some ⟨g, 0, none⟩), .int .i64 at_] w fun e w' => ∃ A c, e = .returned (.slice A (alGl L glob at_ drift).length c) ∧
      SAl w0 w' g b drift at_ L ex ((A, alGl L glob at_ drift) :: rs) := by
  obtain ⟨h1, h2, h3, h5, h6, h7⟩ := h
  refine (align_Global g b drift glob at_ L w h3 h7 ha).mono ?_
  rintro e w' ⟨v, rfl, hown, hal, hm⟩
  obtain ⟨A, c, rfl, -, -, hr, ha⟩ := own_addr hown
  have l1 := h3.1.lt
  have l2 := h3.2.1.lt
  exact ⟨A, c, rfl, bel_mod h1 hm (by intro i hi; omega), h2, hal, h5.mod hm (by intro k hk; omega), (h6.mod hm (by intro k hk; omega)).cons hr (fun ad e => by have := ha ad e; omega), h7⟩
theorem SAl.new_ (n : Int) (hB : Below w0.heap.size w0 w) (hd : I64 drift) (hn : n ≤ 1000) :
    Calls Try.prog 24 #[.int .i64 drift, .int .i64 n] w fun e w' => ∃ g b, e = .returned (.pointer (some ⟨g, 0, none⟩)) ∧ SAl w0 w' g b drift NEV (List.replicate n.toNat NEV) [] [] :=
  (align_New drift n w hd hn).mono fun e w' ⟨g, b, he, h1, h2, h3, h4⟩ => ⟨g, b, he, bel_then hB h4, by have := hB.size; omega, h3, Keep.nil _ _, (fun r hr => by cases hr), by rw [List.length_replicate]; omega⟩
theorem SAl.below (h : SAl w0 w g b drift glob L ex rs) : Below w0.heap.size w0 w := h.1
theorem SAl.row {A : Option Addr} {xs : List Int} (h : SAl w0 w g b drift glob L ex ((A, xs) :: rs)) : Rd w A (xs.map (.int .i64)) := (h.2.2.2.2.1 _ (List.mem_cons_self ..)).1
theorem SAl.tl {r : Option Addr × List Int} (h : SAl w0 w g b drift glob L ex (r :: rs)) : SAl w0 w g b drift glob L ex rs := by
  obtain ⟨h1, h2, h3, h5, h6, h7⟩ := h
  exact ⟨h1, h2, h3, h5, (fun r hr => h6 r (List.mem_cons_of_mem _ hr)), h7⟩
theorem SAl.norow (h : SAl w0 w g b drift glob L ex rs) : SAl w0 w g b drift glob L ex [] := by
  obtain ⟨h1, h2, h3, h5, h6, h7⟩ := h
  exact ⟨h1, h2, h3, h5, (fun r hr => by cases hr), h7⟩
theorem SAl.e0 {k : Nat} {T : TypeId} {cs : Array Value} (h : SAl w0 w g b drift glob L ((k, T, cs) :: ex) rs) : Blk w k T cs := (h.2.2.2.1 _ (List.mem_cons_self ..)).1
theorem SAl.same {A B : Option Addr} {xs ys : List Int} {c d : Nat} (h : SAl w0 w g b drift glob L ex ((A, xs) :: (B, ys) :: rs)) (hx : xs.length ≤ 9223372036854775807) (hy : ys.length ≤ 9223372036854775807) :
    Calls Try.prog 26 #[.slice A xs.length c, .slice B ys.length d] w fun e w' => e = .returned (.bool (decide (xs = ys))) ∧ SAl w0 w' g b drift glob L ex rs :=
  (ref_Same A B c d xs ys w h.row h.tl.row hx hy).mono fun e w' ⟨he, hd⟩ => ⟨he, (h.tl.tl).dr hd⟩
end



set_option maxRecDepth 100000 in
theorem law18_speaks (w : World) : Calls Try.prog 23 #[] w fun e w' => e = .returned (.bool true) ∧ Below w.heap.size w w' := by
  go_enter Try.func23, Try.ntmps23
  go_wp2_with fail
  refine (SAl.new_ (w0 := w) 2 (bel_refl w) (by unfold I64 at *; omega) (by omega)).mono ?_
  rintro e w1 ⟨g, b, rfl, hS⟩
  have e1 : alLim NEV 5 = -9223372036854775803 := by decide
  have e2 : alPaused (alSet [NEV, NEV] 1 10) (-9223372036854775803) 1 = true := by decide
  have e3 : (alHeld (alSet [NEV, NEV] 1 10) (-9223372036854775803)).length = 1 := by decide
  have e4 : alGl (alSet [NEV, NEV] 1 10) NEV 5 5 = [1] := by decide
  go_wp2_with ((first
    | (go_at_call 29; refine (SAl.limit (by assumption)).mono ?_; rintro e w' ⟨rfl, hS⟩)
    | (go_at_call 31; refine (SAl.paused _ (by assumption)).mono ?_; rintro e w' ⟨rfl, hS⟩)
    | (go_at_call 28; refine (SAl.local_ _ _ (by assumption) ?_).mono ?_; (first | assumption | (unfold I64; omega)); rintro e w' ⟨rfl, hS⟩)
    | (go_at_call 30; refine (SAl.held (by assumption)).mono ?_; rintro e w' ⟨A, c, rfl, hS⟩)))
  refine (SAl.global 5 (by assumption) (by unfold I64 at *; omega)).mono ?_
  rintro e w' ⟨A, c, rfl, hS⟩
  have hr : Rd w' A [.int .i64 1] := by have := hS.row; rw [show (2 : Int).toNat = 2 from rfl, show List.replicate 2 NEV = [NEV, NEV] from rfl, e4] at this; exact this
  obtain ⟨ad, rfl, hc⟩ := hr 0 _ rfl
  have hc0 : w'.cell? ad = some (.int .i64 1) := hc
  have hS1 := hS.tl
  have e5 : alPaused (alSet [NEV, NEV] 1 10) (alLim 5 5) 1 = false := by decide
  clear hS hr hc
  go_wp2_with ((first
    | (go_at_call 29; refine (SAl.limit (by assumption)).mono ?_; rintro e w' ⟨rfl, hS⟩)
    | (go_at_call 31; refine (SAl.paused _ (by assumption)).mono ?_; rintro e w' ⟨rfl, hS⟩)
    | (go_at_call 28; refine (SAl.local_ _ _ (by assumption) ?_).mono ?_; (first | assumption | (unfold I64; omega)); rintro e w' ⟨rfl, hS⟩)
    | (go_at_call 30; refine (SAl.held (by assumption)).mono ?_; rintro e w' ⟨A, c, rfl, hS⟩)))
  go_ret
  exact ⟨ret_bool (by decide), SAl.below (by assumption)⟩
theorem alignFree (drift glob loc : Int) (w : World) (h1 : (Lit.int .i64 drift).wf = true) (h2 : (Lit.int .i64 glob).wf = true) (h3 : (Lit.int .i64 loc).wf = true) :
    Calls Try.prog 6 #[.int .i64 drift, .int .i64 glob, .int .i64 loc] w fun e w' => e = .returned (.bool true) ∧ Below w.heap.size w w' := by
  have hd := I64.of_wf h1
  have hg := I64.of_wf h2
  have hl := I64.of_wf h3
  have hm : I64 (max glob loc) := by unfold I64 at *; omega
  clear h1 h2 h3
  go_enter Try.func6, Try.ntmps6
  go_wp2_with fail
  refine (law18_speaks w).mono ?_
  rintro e w1 ⟨rfl, hB⟩
  by_cases hd0 : drift < 0
  · go_wp2
    go_ret
    exact ⟨rfl, hB⟩
  go_wp2_with fail
  refine (SAl.new_ (w0 := w) 1 hB hd (by omega)).mono ?_
  rintro e w2 ⟨g, b, rfl, hS⟩
  have P0 : alSet (List.replicate (1 : Int).toNat NEV) 0 loc = [loc] := rfl
  have hLim : ∀ a, I64 a → a ≤ alLim a drift := by
    intro a ha; unfold I64 at ha hd; unfold alLim satAdd; split
    · omega
    · split <;> omega
  have P1 : alPaused (alSet [NEV] 0 loc) (alLim glob drift) 0 = decide (alLim glob drift < loc) := by
    show decide (0 ≤ (0 : Int) ∧ (0 : Int) < ((1 : Nat) : Int) ∧ alLim glob drift < loc) = _
    simp
  have P2 : alPaused (alSet [NEV] 0 loc) (alLim (max glob loc) drift) 0 = false := by
    show decide (0 ≤ (0 : Int) ∧ (0 : Int) < ((1 : Nat) : Int) ∧ alLim (max glob loc) drift < loc) = _
    have := hLim _ hm
    exact decide_eq_false (by omega)
  have P3 : (alHeld (alSet [NEV] 0 loc) (alLim (max glob loc) drift)).length = 0 := by
    have : alHeld (alSet [NEV] 0 loc) (alLim (max glob loc) drift) = [] := by
      show alHeldK _ _ 1 = []
      rw [alHeldK_succ, if_neg (by rw [show ((0 : Nat) : Int) = 0 from rfl, P2]; simp)]
      rfl
    rw [this]; rfl
  have HL := hid' (hLim glob hg)
  clear hLim P0
  go_wp2_with ((first
    | (go_at_call 29; refine (SAl.limit (by assumption)).mono ?_; rintro e w' ⟨rfl, hS⟩)
    | (go_at_call 31; refine (SAl.paused _ (by assumption)).mono ?_; rintro e w' ⟨rfl, hS⟩)
    | (go_at_call 28; refine (SAl.local_ _ _ (by assumption) ?_).mono ?_; (first | assumption | (unfold I64; omega)); rintro e w' ⟨rfl, hS⟩)
    | (go_at_call 30; refine (SAl.held (by assumption)).mono ?_; rintro e w' ⟨A, c, rfl, hS⟩)
    | (go_at_call 27; refine (SAl.global _ (by assumption) ?_).mono ?_; (first | assumption | (unfold I64; omega)); rintro e w' ⟨A, c, rfl, hS⟩)))
  all_goals first
    | (exfalso; have := HL.out; omega)
    | (go_ret; exact ⟨rfl, SAl.below (by assumption)⟩)
end Go.Proofs.Ytnihefhnffnjoaa
