/- Several texts as one. No condition beyond each one's own. -/
import Derived.Test.YtockkjhciojgbaaGreatDoorPackCb
import Derived.Test.YtockkjhciojgbaaGreatDoorPackH
import Derived.Test.YtockkjhciojgbaaGreatDoorPunct
import Derived.Test.YtockkjhciojgbaaGreatDoorPackEv
import Derived.Test.YtockkjhciojgbaaGreatDoorPackM
import Derived.Test.YtockkjhciojgbaaGreatDoorAlign
import Derived.Test.YtockkjhciojgbaaGreatDoorPackT
import Derived.Test.YtockkjhciojgbaaGreatDoorIdle
import Derived.Deep.RegionHeld
import Derived.Test.YtockkjhciojgbaaGreatDoorApp
import Derived.Test.YtockkjhciojgbaaGreatDoorCells2
import Derived.Deep.RegionLaw
import Derived.Deep.AppendLies
/- GenAny -/
/- The way that a rule says (gen), whichever it is: made, asked, told of a record. No condition but the tables of Go's own where a sign counts. -/
namespace Go.Proofs.YtockkjhciojgbaaGreatDoor
set_option maxRecDepth 100000
set_option linter.unusedSimpArgs false
open Go.RowKit
set_option linter.unusedVariables false
set_option linter.unusedSimpArgs false

theorem PGen.lower {w : World} {B B' g rg rb : Nat} {v : Value} {p : Int} {n : Nat} {q : List Int} {now most : Int} (h : PGen w B g rg rb v p n q now most) (hB : B' ≤ B) : PGen w B' g rg rb v p n q now most := by
  obtain ⟨bs, a2, s2, a1, s1, h1, h2, h3, h4, h5, h6, h7, h8, h9, h10, h11, h12, h13⟩ := h
  exact ⟨bs, a2, s2, a1, s1, ⟨h1.1, h1.2.1, h1.2.2.1, own_lower h1.2.2.2.1 hB, h1.2.2.2.2.1, h1.2.2.2.2.2.1, by have := h1.2.2.2.2.2.2.1; omega, h1.2.2.2.2.2.2.2⟩, h2, h3, h4, h5, h6, h7, h8, h9, h10, by omega, by omega, by omega⟩
set_option maxHeartbeats 4000000 in
theorem gen_Of0 (b p n s : Int) (w : World) (hb : 0 ≤ b) (hbI : I64 b) :
    Calls Tryz.prog 44 #[ruleV 0 b p n s] w fun e w' => ∃ g, e = .returned (.tuple #[.iface 141 (.pointer (some ⟨g, 0, none⟩)), .int .i64 0]) ∧ w.heap.size ≤ g ∧ BGen w' g b NEV NEV ∧ Below w.heap.size w w' := by
  have HC := hid' (fun w => gen_Check 0 b p n s w)
  rw [show ruleC 0 b p n s = 0 by unfold ruleC; rw [if_pos rfl, if_pos hb]] at HC
  unfold ruleV at *
  have HK := hid' (Blk.new_ w 24 #[.int .i64 0, .int .i64 b, .int .i64 p, .int .i64 n, .int .i64 s])
  have HB0 := hid' (bel_alloc (bel_refl w) (.cells #[.int .i64 0, .int .i64 b, .int .i64 p, .int .i64 n, .int .i64 s] 24))
  go_enter Tryz.func44, Tryz.ntmps44
  go_wp2_with fail
  generalize w.alloc (.cells #[.int .i64 0, .int .i64 b, .int .i64 p, .int .i64 n, .int .i64 s] 24) = w0 at *
  refine (HC.out _).mono ?_
  rintro e w1 ⟨rfl, hB1⟩
  have HK1 := hid' (HK.out.below hB1)
  have c0 : w1.cell? ⟨w.heap.size, 0, none⟩ = some (.int .i64 0) := by simpa using HK1.out.cell 0
  have c1 : w1.cell? ⟨w.heap.size, 1, none⟩ = some (.int .i64 b) := by simpa using HK1.out.cell 1
  have HB1 := hid' (bel_then HB0.out hB1)
  have hsz := HB1.out.size
  clear hB1
  go_wp2_with (go_at_call 85; refine (bounded_New b _ hbI).mono ?_; rintro e w2 ⟨g, rfl, hg, hG, hB2⟩)
  go_ret2
  exact ⟨g, rfl, by omega, hG, bel_then HB1.out hB2⟩
set_option maxHeartbeats 4000000 in
theorem gen_Of1 (b p n s : Int) (w : World) (hs0 : 0 ≤ s) (hs1 : s ≤ 1114111) :
    Calls Tryz.prog 44 #[ruleV 1 b p n s] w fun e w' => ∃ g, e = .returned (.tuple #[.iface 137 (.pointer (some ⟨g, 0, none⟩)), .int .i64 0]) ∧ w.heap.size ≤ g ∧ PuGen w' g s NEV ∧ Below w.heap.size w w' := by
  have HC := hid' (fun w => gen_Check 1 b p n s w)
  rw [show ruleC 1 b p n s = 0 by unfold ruleC; rw [if_neg (by decide), if_pos rfl, if_pos hs0, if_pos hs1]] at HC
  unfold ruleV at *
  have HK := hid' (Blk.new_ w 24 #[.int .i64 1, .int .i64 b, .int .i64 p, .int .i64 n, .int .i64 s])
  have HB0 := hid' (bel_alloc (bel_refl w) (.cells #[.int .i64 1, .int .i64 b, .int .i64 p, .int .i64 n, .int .i64 s] 24))
  go_enter Tryz.func44, Tryz.ntmps44
  go_wp2_with fail
  generalize w.alloc (.cells #[.int .i64 1, .int .i64 b, .int .i64 p, .int .i64 n, .int .i64 s] 24) = w0 at *
  refine (HC.out _).mono ?_
  rintro e w1 ⟨rfl, hB1⟩
  have HK1 := hid' (HK.out.below hB1)
  have c0 : w1.cell? ⟨w.heap.size, 0, none⟩ = some (.int .i64 1) := by simpa using HK1.out.cell 0
  have c4 : w1.cell? ⟨w.heap.size, 4, none⟩ = some (.int .i64 s) := by simpa using HK1.out.cell 4
  have HB1 := hid' (bel_then HB0.out hB1)
  have hsz := HB1.out.size
  clear hB1
  go_wp2_with (go_at_call 83; refine (punct_New s _).mono ?_; rintro e w2 ⟨g, rfl, hg, hG, hB2⟩)
  go_ret2
  exact ⟨g, rfl, by omega, hG, bel_then HB1.out hB2⟩
set_option maxHeartbeats 4000000 in
theorem gen_Of2 (b p n s : Int) (w : World) (hp0 : 0 ≤ p) (hp1 : p ≤ 100) (hn0 : 1 ≤ n) (hn1 : n ≤ 4096) :
    Calls Tryz.prog 44 #[ruleV 2 b p n s] w fun e w' => ∃ g rg rb, e = .returned (.tuple #[.iface 139 (.pointer (some ⟨g, 0, none⟩)), .int .i64 0]) ∧ PGen w' w.heap.size g rg rb (.slice none 0 0) p n.toNat [] NEV NEV ∧ Below w.heap.size w w' := by
  have HC := hid' (fun w => gen_Check 2 b p n s w)
  rw [show ruleC 2 b p n s = 0 by unfold ruleC; rw [if_neg (by decide), if_neg (by decide), if_pos rfl, if_pos hp0, if_pos hp1, if_pos hn0, if_pos hn1]] at HC
  unfold ruleV at *
  have HK := hid' (Blk.new_ w 24 #[.int .i64 2, .int .i64 b, .int .i64 p, .int .i64 n, .int .i64 s])
  have HB0 := hid' (bel_alloc (bel_refl w) (.cells #[.int .i64 2, .int .i64 b, .int .i64 p, .int .i64 n, .int .i64 s] 24))
  go_enter Tryz.func44, Tryz.ntmps44
  go_wp2_with fail
  generalize w.alloc (.cells #[.int .i64 2, .int .i64 b, .int .i64 p, .int .i64 n, .int .i64 s] 24) = w0 at *
  refine (HC.out _).mono ?_
  rintro e w1 ⟨rfl, hB1⟩
  have HK1 := hid' (HK.out.below hB1)
  have c0 : w1.cell? ⟨w.heap.size, 0, none⟩ = some (.int .i64 2) := by simpa using HK1.out.cell 0
  have c2 : w1.cell? ⟨w.heap.size, 2, none⟩ = some (.int .i64 p) := by simpa using HK1.out.cell 2
  have c3 : w1.cell? ⟨w.heap.size, 3, none⟩ = some (.int .i64 n) := by simpa using HK1.out.cell 3
  have HB1 := hid' (bel_then HB0.out hB1)
  have hsz := HB1.out.size
  clear hB1
  go_wp2_with (go_at_call 84; refine (percent_New p n _ hp0 hp1 (by omega)).mono ?_; rintro e w2 ⟨g, rg, rb, rfl, hG, hB2⟩)
  go_ret2
  rw [show (max n 1).toNat = n.toNat by omega] at hG
  exact ⟨g, rg, rb, rfl, hG.lower hsz, bel_then HB1.out hB2⟩

/-! ### whichever it is -/
inductive GSt where
  | bnd (b now most : Int)
  | pun (sign now : Int)
  | pct (p : Int) (n : Nat) (q : List Int) (now most : Int)
def GSt.now : GSt → Int
  | .bnd _ now _ => now
  | .pun _ now => now
  | .pct _ _ _ now _ => now
/-- Such a way lies in these blocks. -/
def IsGen (w : World) (F : Nat → Prop) (gt : TypeId) (gv : Value) : GSt → Prop
  | .bnd b now most => ∃ a, gt = 141 ∧ gv = .pointer (some ⟨a, 0, none⟩) ∧ BGen w a b now most ∧ F a
  | .pun sign now => ∃ a, gt = 137 ∧ gv = .pointer (some ⟨a, 0, none⟩) ∧ PuGen w a sign now ∧ F a ∧ I64 sign
  | .pct p n q now most => ∃ B a rg rb v, gt = 139 ∧ gv = .pointer (some ⟨a, 0, none⟩) ∧ PGen w B a rg rb v p n q now most ∧ ∀ k, PF a rg rb v k → F k
theorem IsGen.mod {w w' : World} {F S : Nat → Prop} {gt : TypeId} {gv : Value} {g : GSt} (h : IsGen w F gt gv g) (hm : Mod S w w') (hs : ∀ k, F k → ¬ S k) : IsGen w' F gt gv g := by
  cases g with
  | bnd b now most => obtain ⟨a, h1, h2, h3, h4⟩ := h; exact ⟨a, h1, h2, h3.mod hm (hs _ h4), h4⟩
  | pun sign now => obtain ⟨a, h1, h2, h3, h4, h5⟩ := h; exact ⟨a, h1, h2, h3.mod hm (hs _ h4), h4, h5⟩
  | pct p n q now most => obtain ⟨B, a, rg, rb, v, h1, h2, h3, h4⟩ := h; exact ⟨B, a, rg, rb, v, h1, h2, h3.mod hm (fun k hk => hs k (h4 k hk)), h4⟩
theorem IsGen.below {w w' : World} {F : Nat → Prop} {gt : TypeId} {gv : Value} {g : GSt} (h : IsGen w F gt gv g) (hb : Below w.heap.size w w') : IsGen w' F gt gv g :=
  h.mod (Mod.of_below (S := fun _ => False) hb) (fun _ _ h => h)
theorem IsGen.mono {w : World} {F F' : Nat → Prop} {gt : TypeId} {gv : Value} {g : GSt} (h : IsGen w F gt gv g) (hf : ∀ k, k < w.heap.size → F k → F' k) : IsGen w F' gt gv g := by
  cases g with
  | bnd b now most => obtain ⟨a, h1, h2, h3, h4⟩ := h; exact ⟨a, h1, h2, h3, hf a (by obtain ⟨_, _, _, _, hb, _⟩ := h3; exact hb.lt) h4⟩
  | pun sign now => obtain ⟨a, h1, h2, h3, h4, h5⟩ := h; exact ⟨a, h1, h2, h3, hf a h3.lt h4, h5⟩
  | pct p n q now most => obtain ⟨B, a, rg, rb, v, h1, h2, h3, h4⟩ := h; exact ⟨B, a, rg, rb, v, h1, h2, h3, fun k hk => hf k (h3.bound.1 k hk).2 (h4 k hk)⟩
/-- the way that a rule says, ahead of all records -/
def gen0 (r : Int × Int × Int × Int × Int) : GSt := if r.1 = 1 then .pun r.2.2.2.2 NEV else if r.1 = 2 then .pct r.2.2.1 r.2.2.2.1.toNat [] NEV NEV else .bnd r.2.1 NEV NEV
def Own2 (lo hi k : Nat) : Prop := lo ≤ k ∧ k < hi
set_option maxHeartbeats 4000000 in
theorem gen_Any (k b p n s : Int) (w : World) (hc : ruleC k b p n s = 0) (hb : I64 b) :
    Calls Tryz.prog 44 #[ruleV k b p n s] w fun e w' => ∃ gt gv, e = .returned (.tuple #[.iface gt gv, .int .i64 0]) ∧ IsGen w' (Own2 w.heap.size w'.heap.size) gt gv (gen0 (k, b, p, n, s)) ∧ Below w.heap.size w w' := by
  unfold ruleC at hc
  by_cases k0 : k = 0
  · subst k0
    rw [if_pos rfl] at hc
    have hb0 : 0 ≤ b := by by_cases h : 0 ≤ b; exact h; rw [if_neg h] at hc; exact absurd hc (by decide)
    refine (gen_Of0 b p n s w hb0 hb).mono ?_
    rintro e w' ⟨g, rfl, hg, hG, hB⟩
    have hlt : g < w'.heap.size := by obtain ⟨_, _, _, _, hb, _⟩ := hG; exact hb.lt
    exact ⟨_, _, rfl, ⟨g, rfl, rfl, hG, hg, hlt⟩, hB⟩
  rw [if_neg k0] at hc
  by_cases k1 : k = 1
  · subst k1
    rw [if_pos rfl] at hc
    have hs : 0 ≤ s ∧ s ≤ 1114111 := by
      by_cases h : 0 ≤ s
      · rw [if_pos h] at hc
        by_cases h2 : s ≤ 1114111
        · exact ⟨h, h2⟩
        · rw [if_neg h2] at hc; exact absurd hc (by decide)
      · rw [if_neg h] at hc; exact absurd hc (by decide)
    refine (gen_Of1 b p n s w hs.1 hs.2).mono ?_
    rintro e w' ⟨g, rfl, hg, hG, hB⟩
    exact ⟨_, _, rfl, ⟨g, rfl, rfl, hG, ⟨hg, hG.lt⟩, (show I64 s from by unfold I64; omega)⟩, hB⟩
  rw [if_neg k1] at hc
  by_cases k2 : k = 2
  · subst k2
    rw [if_pos rfl] at hc
    have hs : 0 ≤ p ∧ p ≤ 100 ∧ 1 ≤ n ∧ n ≤ 4096 := by
      by_cases h1 : 0 ≤ p
      · by_cases h2 : p ≤ 100
        · by_cases h3 : 1 ≤ n
          · by_cases h4 : n ≤ 4096
            · exact ⟨h1, h2, h3, h4⟩
            · rw [if_pos h1, if_pos h2, if_pos h3, if_neg h4] at hc; exact absurd hc (by decide)
          · rw [if_pos h1, if_pos h2, if_neg h3] at hc; exact absurd hc (by decide)
        · rw [if_pos h1, if_neg h2] at hc; exact absurd hc (by decide)
      · rw [if_neg h1] at hc; exact absurd hc (by decide)
    refine (gen_Of2 b p n s w hs.1 hs.2.1 hs.2.2.1 hs.2.2.2).mono ?_
    rintro e w' ⟨g, rg, rb, rfl, hG, hB⟩
    exact ⟨_, _, rfl, ⟨w.heap.size, g, rg, rb, _, rfl, rfl, hG, hG.bound.1⟩, hB⟩
  rw [if_neg k2] at hc
  exact absurd hc (by decide)
end Go.Proofs.YtockkjhciojgbaaGreatDoor
/- Src -/
/- The engine (package source): an event put, a partition settled, time gone on, walked. No condition. -/
namespace Go.Proofs.YtockkjhciojgbaaGreatDoor
set_option maxRecDepth 100000
set_option linter.unusedSimpArgs false
open Go.RowKit
set_option linter.unusedVariables false
set_option linter.unusedSimpArgs false

abbrev TSrc : TypeId := 86
theorem own_alloc1 {w : World} {base : Nat} {e : TypeId} {size n : Nat} {v : Value} {xs : List Value} (h : w.ownsRow base e size v n xs) (o : Obj) : (w.alloc o).ownsRow base e size v n xs := own_below h (bel_alloc (bel_refl w) o)
theorem evV_one (x : Ev) : (evV x).oneCell' = true := by cases x <;> rfl
/-- An event comes out. -/
theorem source_put (s B n : Nat) (p0 p1 p2 p3 ov p5 : Value) (xs : List Value) (t : TypeId) (y : Value) (w : World) (hy : (Value.iface t y).oneCell' = true) (hS : Blk w s 86 #[p0, p1, p2, p3, ov, p5]) (hO : w.ownsRow B 101 1 ov n xs) (hB : B ≤ w.heap.size) (hn : n ≤ 1000000) :
    Calls Tryz.prog 92 #[.pointer (some ⟨s, 0, none⟩), .iface t y] w fun e w' => e = .returned (.tuple #[]) ∧ ∃ ov', Blk w' s 86 #[p0, p1, p2, p3, ov', p5] ∧ w'.ownsRow B 101 1 ov' (n + 1) (xs ++ [.iface t y]) ∧ Mod (fun k => k = s ∨ ov.ownBlock = some k) w w' ∧ (ov'.ownBlock = ov.ownBlock ∨ ∃ b, ov'.ownBlock = some b ∧ w.heap.size ≤ b) := by
  have c4 : w.cell? ⟨s, 4, none⟩ = some ov := by simpa using hS.cell 4
  have hlt := hS.lt
  have HS := hid' hS
  have HO := hid' hO
  have HNE := hid' (own_ne' hO hS (by decide))
  have hby : (n + 1) * 16 ≤ 140737488355328 := by omega
  have hone := hid' (show ∀ u ∈ [Value.iface t y], u.oneCell' = true from by intro u hu; rw [List.mem_singleton] at hu; subst hu; exact hy)
  clear hS hO hy
  go_enter Tryz.func92, Tryz.ntmps92
  go_wp2_with (at_builtin; (refine ap_cells B rfl _ _ 53 101 .nilIface 1 16 rfl (by kernel_rfl) (by kernel_rfl) rfl (by decide) (by decide) ov n xs [.iface t y] rfl rfl rfl hone.out HO.out hB hby ?_); intro v1 w1 hown hg hat; have HMG := hid' (show Mod (fun k => ov.ownBlock = some k) w w1 from Mod.of_grown hg); have HAT := hid' hat; have HOW := hid' hown; obtain ⟨A1, c1, rfl, -, -, -⟩ := own_rd hown; have hS1 := HS.out.mod HMG.out HNE.out; have c41 : w1.cell? ⟨s, 4, none⟩ = some ov := (by simpa using hS1.cell 4); have f41 := hS1.frozen 4; have h41 := hS1.shape; have HS1 := hid' hS1; have HNE1 := hid' (own_ne' hown hS1 (by decide)); clear hg hat hS1 hown c4)
  go_end0
  refine ⟨rfl, _, (HS1.out.set 4 _).cast (by simp), own_set' HOW.out (p := ⟨s, 4, none⟩) HNE1.out _, ?_, HAT.out⟩
  exact (HMG.out.mono (T := fun k => k = s ∨ ov.ownBlock = some k) (fun i _ h => .inr h)).setCell (p := ⟨s, 4, none⟩) (fun _ => .inl rfl) _
set_option maxHeartbeats 1000000 in
theorem cursor_AheadW (g : Nat) (s : ByteArray) (at_ cnt : Nat) (w : World) (h : CurI w g s at_ cnt) (hs : s.size ≤ 200000) :
    Calls Tryz.prog 89 #[.pointer (some ⟨g, 0, none⟩)] w fun e w' => e = .returned (.int .i64 (cSt s at_)) ∧ Dr w w' := by
  have hs' : s.size ≤ 9223372036854775807 := by omega
  have hle := h.2
  have c0 : w.cell? ⟨g, 0, none⟩ = some (.string s) := by simpa [curC] using h.1.cell 0
  have c1 : w.cell? ⟨g, 1, none⟩ = some (.int .i64 (at_ : Int)) := by simpa [curC] using h.1.cell 1
  have c7 : w.cell? ⟨g, 7, none⟩ = some (.int .i64 (cLook s at_).2.2) := by simpa [curC] using h.1.cell 7
  have hst : cSt s at_ = if (cLook s at_).2.2 ≠ 0 then 2 else if at_ = s.size then 1 else 0 := rfl
  generalize (cLook s at_).2.2 = er at *
  clear h
  by_cases he : er ≠ 0
  · rw [if_pos he] at hst
    rw [hst]
    have e1 : (er != 0) = true := by simpa using he
    clear he hst
    go_enter Tryz.func89, Tryz.ntmps89
    go_wp2
    go_ret
    exact ⟨rfl, Dr.refl _⟩
  rw [if_neg he] at hst
  have he : er = 0 := by omega
  subst he
  by_cases ha : at_ = s.size
  · rw [if_pos ha] at hst
    rw [hst]
    subst ha
    clear hst
    go_enter Tryz.func89, Tryz.ntmps89
    go_wp2
    go_region
    all_goals
      go_wp2
      go_ret
      exact ⟨rfl, Dr.stepd (Dr.refl _)⟩
  · rw [if_neg ha] at hst
    rw [hst]
    have e1 : ((at_ : Int) == (s.size : Int)) = false := by rw [beq_eq_false_iff_ne]; omega
    clear hst
    go_enter Tryz.func89, Tryz.ntmps89
    go_wp2
    go_region
    all_goals
      go_wp2
      go_ret
      exact ⟨rfl, Dr.stepd (Dr.refl _)⟩
def RngH (lo hi k : Nat) : Prop := lo ≤ k ∧ k < hi
set_option maxHeartbeats 4000000 in
/-- Has time come further? -/
theorem source_advance (s B n lo hi m ga ba : Nat) (p0 p1 ov p5 : Value) (marks iss loc : List Int) (now drift glob : Int) (xs : List Value) (w : World)
    (hS : Blk w s 86 #[p0, p1, .pointer (some ⟨m, 0, none⟩), .pointer (some ⟨ga, 0, none⟩), ov, p5]) (hM : IsMerge w lo hi m marks iss now) (hA : AlignB w ga ba drift glob loc) (hO : w.ownsRow B 101 1 ov n xs)
    (hB : B ≤ w.heap.size) (hn : n ≤ 1000000) (hl : loc.length ≤ 1000) (hL : I64 (mergeLeast marks iss)) (ds : ¬ RngH lo hi s) (da : ¬ RngH lo hi ga) (db : ¬ RngH lo hi ba) (dv : ∀ k, ov.ownBlock = some k → ¬ RngH lo hi k) (hhi : hi ≤ w.heap.size) :
    Calls Tryz.prog 49 #[.pointer (some ⟨s, 0, none⟩)] w fun e w' => e = .returned (.tuple #[]) ∧ ∃ ov', Blk w' s 86 #[p0, p1, .pointer (some ⟨m, 0, none⟩), .pointer (some ⟨ga, 0, none⟩), ov', p5] ∧
      IsMerge w' lo hi m marks iss (max now (mergeLeast marks iss)) ∧ AlignB w' ga ba drift (if now < mergeLeast marks iss then mergeLeast marks iss else glob) loc ∧
      w'.ownsRow B 101 1 ov' (n + if now < mergeLeast marks iss then 1 else 0) (xs ++ if now < mergeLeast marks iss then [evV (.mark (mergeLeast marks iss))] else []) ∧
      Mod (fun k => k = s ∨ RngH lo hi k ∨ k = ga ∨ ov.ownBlock = some k) w w' ∧ (ov'.ownBlock = ov.ownBlock ∨ ∃ b, ov'.ownBlock = some b ∧ w.heap.size ≤ b) := by
  have c2 : w.cell? ⟨s, 2, none⟩ = some (.pointer (some ⟨m, 0, none⟩)) := by simpa using hS.cell 2
  have HM := hid' (merge_Advance lo hi m marks iss now w hM)
  have HS := hid' hS
  have HA := hid' hA
  have HO := hid' hO
  have HSA := hid' (And.intro (Blk.ne hS hA.1 (by decide)) (Blk.ne hS hA.2.1 (by decide)))
  have HOA := hid' (And.intro (own_ne' hO hA.1 (by decide)) (own_ne' hO hA.2.1 (by decide)))
  clear hS hM hA hO
  generalize mergeLeast marks iss = L at *
  by_cases hlt : now < L
  · rw [if_pos hlt, if_pos hlt, if_pos hlt]
    rw [show advAt now L = L from by unfold advAt; rw [if_pos hlt], show decide (now < L) = true from decide_eq_true hlt] at HM
    clear hlt
    go_enter Tryz.func49, Tryz.ntmps49
    go_wp2_with fail
    refine HM.out.mono ?_
    rintro e w1 ⟨rfl, hM1, hm1⟩
    have HM1 := hid' hM1
    have HMm := hid' (show Mod (RngH lo hi) w w1 from hm1)
    have HS1 := hid' (HS.out.mod HMm.out ds)
    have HA1 := hid' (HA.out.mod HMm.out da db)
    have HO1 := hid' (own_mod HO.out HMm.out dv)
    have hB1 : B ≤ w1.heap.size := Nat.le_trans hB hm1.size
    have HP := hid' (source_put s B n p0 p1 _ _ ov p5 xs 155 (.agg #[.int .i64 L]) w1 rfl HS1.out HO1.out hB1 hn)
    clear hM1 hm1 c2
    go_wp2_with fail
    refine HP.out.mono ?_
    rintro e w2 ⟨rfl, ov', hS2, hO2, hm2, hat⟩
    have c3 : w2.cell? ⟨s, 3, none⟩ = some (.pointer (some ⟨ga, 0, none⟩)) := by simpa using hS2.cell 3
    have hA2 := HA1.out.mod hm2 (by rintro (h | h); exact HSA.out.1 h.symm; exact HOA.out.1 h) (by rintro (h | h); exact HSA.out.2 h.symm; exact HOA.out.2 h)
    have HM2 := hid' (HM1.out.mod hm2 (by rintro k h1 h2 (h | h); exact ds ⟨by omega, by omega⟩; exact dv k h ⟨h1, h2⟩))
    have HG := hid' (align_Global ga ba drift glob L loc w2 hA2 hl hL)
    have HS2 := hid' hS2
    have HO2 := hid' hO2
    have HOA2 := hid' (own_ne' hO2 hA2.1 (by decide))
    have HMm2 := hid' ((HMm.out.mono (T := fun k => k = s ∨ RngH lo hi k ∨ k = ga ∨ ov.ownBlock = some k) (fun i _ h => .inr (.inl h))).trans (hm2.mono (fun i _ h => by rcases h with h | h; exact .inl h; exact .inr (.inr (.inr h)))))
    have HAT := hid' (show ov'.ownBlock = ov.ownBlock ∨ ∃ b, ov'.ownBlock = some b ∧ w.heap.size ≤ b from by
      rcases hat with h | ⟨b, h1, h2⟩
      · exact .inl h
      · exact .inr ⟨b, h1, Nat.le_trans HMm.out.size h2⟩)
    clear hS2 hO2 hm2 hat hA2
    go_wp2_with fail
    refine HG.out.mono ?_
    rintro e w3 ⟨v3, rfl, -, hA3, hm3⟩
    have HA3 := hid' hA3
    have HS3 := hid' (HS2.out.mod hm3 HSA.out.1)
    have HO3 := hid' (own_mod HO2.out hm3 (fun k h1 h2 => HOA2.out (h1.trans (by rw [h2]))))
    have HM3 := hid' (HM2.out.mod hm3 (by rintro k h1 h2 rfl; exact da ⟨h1, h2⟩))
    have HMm3 := hid' (HMm2.out.trans (hm3.mono (fun i _ h => .inr (.inr (.inl h)))))
    clear hA3 hm3 c3
    go_wp2
    go_end0
    exact ⟨rfl, ov', HS3.out, HM3.out, HA3.out, HO3.out, HMm3.out, HAT.out⟩
  · rw [if_neg hlt, if_neg hlt, if_neg hlt]
    rw [show decide (now < L) = false from decide_eq_false hlt] at HM
    clear hlt
    go_enter Tryz.func49, Tryz.ntmps49
    go_wp2_with fail
    refine HM.out.mono ?_
    rintro e w1 ⟨rfl, hM1, hm1⟩
    have HM1 := hid' hM1
    have HMm := hid' (show Mod (RngH lo hi) w w1 from hm1)
    have HS1 := hid' (HS.out.mod HMm.out ds)
    have HA1 := hid' (HA.out.mod HMm.out da db)
    have HO1 := hid' (own_mod HO.out HMm.out dv)
    clear hM1 hm1 c2
    go_wp2
    go_end0
    exact ⟨rfl, ov, HS1.out, HM1.out, HA1.out, by simpa using HO1.out, HMm.out.mono (fun i _ h => .inr (.inl h)), .inl rfl⟩
def setIs (is : Int) (c : Int) : Int := if c = 1 then iEnd is 2 else if c = 2 then iEnd is 3 else is
theorem cSt_cases (s : ByteArray) (a : Nat) : cSt s a = 0 ∨ cSt s a = 1 ∨ cSt s a = 2 := by
  unfold cSt; split
  · exact .inr (.inr rfl)
  · split
    · exact .inr (.inl rfl)
    · exact .inl rfl
set_option maxHeartbeats 4000000 in
/-- Is a partition over? -/
theorem source_settle (s B n lo hi m c st N pc i : Nat) (ad : Addr) (p1 p3 ov p5 gv : Value) (gt : TypeId) (marks iss : List Int) (now : Int) (text : ByteArray) (at_ cnt : Nat) (tmo u is : Int) (xs : List Value) (w : World)
    (hS : Blk w s 86 #[.slice (some ad) N pc, p1, .pointer (some ⟨m, 0, none⟩), p3, ov, p5]) (hiN : i < N) (hN : N ≤ 1000)
    (h0 : w.cell? (ad.add (i * 3)) = some (.pointer (some ⟨c, 0, none⟩))) (h1 : w.cell? ⟨(ad.add (i * 3)).block, (ad.add (i * 3)).off + 1, none⟩ = some (.iface gt gv)) (h2 : w.cell? ⟨(ad.add (i * 3)).block, (ad.add (i * 3)).off + 2, none⟩ = some (.pointer (some ⟨st, 0, none⟩)))
    (hC : CurI w c text at_ cnt) (hts : text.size ≤ 200000) (hI : IdleB w st tmo u is) (hM : IsMerge w lo hi m marks iss now) (hO : w.ownsRow B 101 1 ov n xs) (hB : B ≤ w.heap.size) (hn : n ≤ 1000000)
    (ds : ¬ RngH lo hi s) (dst : ¬ RngH lo hi st) (dv : ∀ k, ov.ownBlock = some k → ¬ RngH lo hi k) (hhi : hi ≤ w.heap.size) :
    Calls Tryz.prog 48 #[.pointer (some ⟨s, 0, none⟩), .int .i64 (i : Int)] w fun e w' => e = .returned (.tuple #[]) ∧ ∃ ov', Blk w' s 86 #[.slice (some ad) N pc, p1, .pointer (some ⟨m, 0, none⟩), p3, ov', p5] ∧
      IdleB w' st tmo u (setIs is (cSt text at_)) ∧ IsMerge w' lo hi m marks (alSet iss (i : Int) (setIs is (cSt text at_))) now ∧
      w'.ownsRow B 101 1 ov' (n + if cSt text at_ = 2 then 1 else 0) (xs ++ if cSt text at_ = 2 then [evV (.fault (i : Int) (cLook text at_).2.2)] else []) ∧
      Mod (fun k => k = s ∨ RngH lo hi k ∨ k = st ∨ ov.ownBlock = some k) w w' ∧ (ov'.ownBlock = ov.ownBlock ∨ ∃ b, ov'.ownBlock = some b ∧ w.heap.size ≤ b) := by
  have c0 : w.cell? ⟨s, 0, none⟩ = some (.slice (some ad) N pc) := by simpa using hS.cell 0
  have hiI : (i : Int) < (N : Int) := by omega
  have hNI : (N : Int) ≤ 1000 := by omega
  have hba := bel_alloc (bel_refl w) (.cells #[.pointer (some ⟨c, 0, none⟩), .iface gt gv, .pointer (some ⟨st, 0, none⟩)] 97)
  have HB1 := hid' hba
  have HK := hid' (Blk.new_ w 97 #[.pointer (some ⟨c, 0, none⟩), .iface gt gv, .pointer (some ⟨st, 0, none⟩)])
  have hsw : s ≠ w.heap.size := by have := hS.lt; omega
  have hstw : st ≠ w.heap.size := by have := Blk.lt hI; omega
  have HS := hid' (hS.below hba)
  have HC := hid' (hC.below hba)
  have HI := hid' (show IdleB _ st tmo u is from Blk.below hI hba)
  have HM := hid' (hM.mod (Mod.of_below (S := fun _ => False) hba) (fun _ _ _ h => h))
  have HO := hid' (own_below hO hba)
  have HSI := hid' (Blk.ne hS hI (by decide))
  have HOI := hid' (own_ne' hO hI (by decide))
  have hpk : ¬ RngH lo hi w.heap.size := fun h => by have := h.2; omega
  clear hS hC hI hM hO hba
  have HAh := hid' (fun W (h : CurI W c text at_ cnt) => cursor_AheadW c text at_ cnt W h hts)
  rcases cSt_cases text at_ with hc | hc | hc
  · rw [hc] at HAh ⊢
    go_enter Tryz.func48, Tryz.ntmps48
    go_wp2_with fail
    generalize w.alloc (.cells #[.pointer (some ⟨c, 0, none⟩), .iface gt gv, .pointer (some ⟨st, 0, none⟩)] 97) = w1 at *
    obtain ⟨pk, hpkw⟩ : ∃ pk, pk = w.heap.size := ⟨_, rfl⟩
    rw [← hpkw] at HK hsw hstw hpk ⊢
    have HPK := hid' hpkw
    clear hpkw c0 h0 h1 h2
    refine (HAh.out _ HC.out).mono ?_
    rintro e w5 ⟨rfl, hD⟩
    have hb := hD.below
    have HB5 := hid' (bel_then HB1.out hb)
    have HS5 := hid' (HS.out.below hb)
    have HK5 := hid' (HK.out.below hb)
    have HI5 := hid' (show IdleB w5 st tmo u is from Blk.below HI.out hb)
    have HM5 := hid' (HM.out.mod (Mod.of_below (S := fun _ => False) hb) (fun _ _ _ h => h))
    have HO5 := hid' (own_below HO.out hb)
    clear hD hb
    have d2 : w5.cell? ⟨s, 2, none⟩ = some (.pointer (some ⟨m, 0, none⟩)) := by simpa using HS5.out.cell 2
    have e2 : w5.cell? ⟨pk, 2, none⟩ = some (.pointer (some ⟨st, 0, none⟩)) := by simpa using HK5.out.cell 2
    have HIs := hid' (fun W (h : Dr w5 W) => idle_Is st tmo u is W (by obtain ⟨k, rfl⟩ := h; exact HI5.out))
    have HMI := hid' (fun W (h : Dr w5 W) => merge_Is lo hi m marks iss now (i : Int) is W (by obtain ⟨k, rfl⟩ := h; exact HM5.out))
    go_wp2
    go_region_held3 (fun w' => w'.cell? ⟨s, 2, none⟩ = some (.pointer (some ⟨m, 0, none⟩)) ∧ w'.cell? ⟨pk, 2, none⟩ = some (.pointer (some ⟨st, 0, none⟩)))
      (first | exact ⟨d2, e2⟩ | exact hcell)
      (first
        | (go_at_call 54; refine (HIs.out _ (by repeat (first | exact Dr.refl _ | apply Dr.step | apply Dr.stepd))).mono ?_; rintro e w' ⟨rfl, rfl⟩)
        | (go_at_call 82; refine (HMI.out _ (by repeat (first | exact Dr.refl _ | apply Dr.step | apply Dr.stepd))).mono ?_; rintro e w6 ⟨rfl, hM6, hm6⟩; have hcell := And.intro (hm6.cell d2 ds) (hm6.cell e2 hpk)))
    have HM6 := hid' hM6
    have HMm6 := hid' (show Mod (RngH lo hi) w5 w6 from ⟨hm6.os, hm6.tape, hm6.output, hm6.size, hm6.block⟩)
    clear hM6 hm6 hcell d2 e2
    go_wp2
    go_end0
    exact ⟨rfl, ov, HS5.out.mod HMm6.out ds, Blk.mod HI5.out HMm6.out dst, HM6.out, by simpa using own_mod HO5.out HMm6.out dv, (Mod.of_below HB5.out).trans (HMm6.out.mono (fun i _ h => .inr (.inl h))), .inl rfl⟩
  · rw [hc] at HAh ⊢
    go_enter Tryz.func48, Tryz.ntmps48
    go_wp2_with fail
    generalize w.alloc (.cells #[.pointer (some ⟨c, 0, none⟩), .iface gt gv, .pointer (some ⟨st, 0, none⟩)] 97) = w1 at *
    obtain ⟨pk, hpkw⟩ : ∃ pk, pk = w.heap.size := ⟨_, rfl⟩
    rw [← hpkw] at HK hsw hstw hpk ⊢
    have HPK := hid' hpkw
    clear hpkw c0 h0 h1 h2
    refine (HAh.out _ HC.out).mono ?_
    rintro e w2 ⟨rfl, hD⟩
    have hb := hD.below
    have HB2 := hid' (bel_then HB1.out hb)
    have HS2 := hid' (HS.out.below hb)
    have HK2 := hid' (HK.out.below hb)
    have HI2 := hid' (idle_End st tmo u is w2 (Blk.below HI.out hb))
    have HM2 := hid' (HM.out.mod (Mod.of_below (S := fun _ => False) hb) (fun _ _ _ h => h))
    have HO2 := hid' (own_below HO.out hb)
    have e2 : w2.cell? ⟨pk, 2, none⟩ = some (.pointer (some ⟨st, 0, none⟩)) := by simpa using HK2.out.cell 2
    clear hD hb
    go_wp2_with fail
    refine HI2.out.mono ?_
    rintro e w5 ⟨rfl, hI5, hm5⟩
    have HI5 := hid' hI5
    have HS5 := hid' (HS2.out.mod hm5 HSI.out)
    have HK5 := hid' (HK2.out.mod hm5 hstw.symm)
    have HM5 := hid' (HM2.out.mod hm5 (by rintro k h1 h2 rfl; exact dst ⟨h1, h2⟩))
    have HO5 := hid' (own_mod HO2.out hm5 (fun k h1 h2 => HOI.out (h1.trans (by rw [h2]))))
    have HMm5 := hid' ((Mod.of_below (S := fun k => k = s ∨ RngH lo hi k ∨ k = st ∨ ov.ownBlock = some k) HB2.out).trans (hm5.mono (fun i _ h => .inr (.inr (.inl h)))))
    clear hI5 hm5 e2
    have d2 : w5.cell? ⟨s, 2, none⟩ = some (.pointer (some ⟨m, 0, none⟩)) := by simpa using HS5.out.cell 2
    have e2 : w5.cell? ⟨pk, 2, none⟩ = some (.pointer (some ⟨st, 0, none⟩)) := by simpa using HK5.out.cell 2
    have HIs := hid' (fun W (h : Dr w5 W) => idle_Is st tmo u (iEnd is 2) W (by obtain ⟨k, rfl⟩ := h; exact HI5.out))
    have HMI := hid' (fun W (h : Dr w5 W) => merge_Is lo hi m marks iss now (i : Int) (iEnd is 2) W (by obtain ⟨k, rfl⟩ := h; exact HM5.out))
    go_wp2
    go_region_held3 (fun w' => w'.cell? ⟨s, 2, none⟩ = some (.pointer (some ⟨m, 0, none⟩)) ∧ w'.cell? ⟨pk, 2, none⟩ = some (.pointer (some ⟨st, 0, none⟩)))
      (first | exact ⟨d2, e2⟩ | exact hcell)
      (first
        | (go_at_call 54; refine (HIs.out _ (by repeat (first | exact Dr.refl _ | apply Dr.step | apply Dr.stepd))).mono ?_; rintro e w' ⟨rfl, rfl⟩)
        | (go_at_call 82; refine (HMI.out _ (by repeat (first | exact Dr.refl _ | apply Dr.step | apply Dr.stepd))).mono ?_; rintro e w6 ⟨rfl, hM6, hm6⟩; have hcell := And.intro (hm6.cell d2 ds) (hm6.cell e2 hpk)))
    have HM6 := hid' hM6
    have HMm6 := hid' (show Mod (RngH lo hi) w5 w6 from ⟨hm6.os, hm6.tape, hm6.output, hm6.size, hm6.block⟩)
    clear hM6 hm6 hcell d2 e2
    go_wp2
    go_end0
    exact ⟨rfl, ov, HS5.out.mod HMm6.out ds, Blk.mod HI5.out HMm6.out dst, HM6.out, by simpa using own_mod HO5.out HMm6.out dv, HMm5.out.trans (HMm6.out.mono (fun i _ h => .inr (.inl h))), .inl rfl⟩
  · rw [hc] at HAh ⊢
    have HER := hid' (fun W (h : CurI W c text at_ cnt) => cursor_Err c text at_ cnt W h)
    obtain ⟨er, her⟩ : ∃ er, er = (cLook text at_).2.2 := ⟨_, rfl⟩
    rw [← her] at HER ⊢
    have HERR := hid' her
    clear her
    go_enter Tryz.func48, Tryz.ntmps48
    go_wp2_with fail
    generalize w.alloc (.cells #[.pointer (some ⟨c, 0, none⟩), .iface gt gv, .pointer (some ⟨st, 0, none⟩)] 97) = w1 at *
    obtain ⟨pk, hpkw⟩ : ∃ pk, pk = w.heap.size := ⟨_, rfl⟩
    rw [← hpkw] at HK hsw hstw hpk ⊢
    have HPK := hid' hpkw
    clear hpkw c0 h0 h1 h2
    refine (HAh.out _ HC.out).mono ?_
    rintro e w2 ⟨rfl, hD⟩
    have hb := hD.below
    have HB2 := hid' (bel_then HB1.out hb)
    have HS2 := hid' (HS.out.below hb)
    have HK2 := hid' (HK.out.below hb)
    have HC2 := hid' (HC.out.below hb)
    have HI2 := hid' (idle_Fail st tmo u is w2 (Blk.below HI.out hb))
    have HM2 := hid' (HM.out.mod (Mod.of_below (S := fun _ => False) hb) (fun _ _ _ h => h))
    have HO2 := hid' (own_below HO.out hb)
    have hcst : c ≠ st := Blk.ne HC2.out.1 (Blk.below HI.out hb) (by decide)
    have e2 : w2.cell? ⟨pk, 2, none⟩ = some (.pointer (some ⟨st, 0, none⟩)) := by simpa using HK2.out.cell 2
    clear hD hb
    go_wp2_with fail
    refine HI2.out.mono ?_
    rintro e w3 ⟨rfl, hI3, hm3⟩
    have HI3 := hid' hI3
    have HS3 := hid' (HS2.out.mod hm3 HSI.out)
    have HK3 := hid' (HK2.out.mod hm3 hstw.symm)
    have HC3 := hid' (HC2.out.mod hm3 hcst)
    have HM3 := hid' (HM2.out.mod hm3 (by rintro k h1 h2 rfl; exact dst ⟨h1, h2⟩))
    have HO3 := hid' (own_mod HO2.out hm3 (fun k h1 h2 => HOI.out (h1.trans (by rw [h2]))))
    have HMm3 := hid' ((Mod.of_below (S := fun k => k = s ∨ RngH lo hi k ∨ k = st ∨ ov.ownBlock = some k) HB2.out).trans (hm3.mono (fun i _ h => .inr (.inr (.inl h)))))
    have e0 : w3.cell? ⟨pk, 0, none⟩ = some (.pointer (some ⟨c, 0, none⟩)) := by simpa using HK3.out.cell 0
    have hB3 : B ≤ w3.heap.size := Nat.le_trans hB HMm3.out.size
    have HP := hid' (source_put s B n _ p1 _ p3 ov p5 xs 151 (.agg #[.int .i64 (i : Int), .int .i64 er]) w3 rfl HS3.out HO3.out hB3 hn)
    have HKO := hid' (own_ne' HO3.out HK3.out (by decide))
    clear hI3 hm3 e2
    go_wp2_with fail
    refine (HER.out _ HC3.out).mono ?_
    rintro e w' ⟨rfl, rfl⟩
    go_wp2_with fail
    refine HP.out.mono ?_
    rintro e w5 ⟨rfl, ov', hS5, hO5, hm5, hat⟩
    have HS5 := hid' hS5
    have HI5 := hid' (show IdleB w5 st tmo u (iEnd is 3) from Blk.mod HI3.out hm5 (by rintro (h | h); exact HSI.out h.symm; exact HOI.out h))
    have HK5 := hid' (HK3.out.mod hm5 (by rintro (h | h); exact hsw h.symm; exact HKO.out h))
    have HM5 := hid' (HM3.out.mod hm5 (by rintro k h1 h2 (h | h); exact ds ⟨by omega, by omega⟩; exact dv k h ⟨h1, h2⟩))
    have HO5 := hid' hO5
    have HMm5 := hid' (HMm3.out.trans (hm5.mono (T := fun k => k = s ∨ RngH lo hi k ∨ k = st ∨ ov.ownBlock = some k) (fun i _ h => by rcases h with h | h; exact .inl h; exact .inr (.inr (.inr h)))))
    have HAT := hid' (show ov'.ownBlock = ov.ownBlock ∨ ∃ b, ov'.ownBlock = some b ∧ w.heap.size ≤ b from by
      rcases hat with h | ⟨b, h1, h2⟩
      · exact .inl h
      · exact .inr ⟨b, h1, Nat.le_trans HMm3.out.size h2⟩)
    have dv' : ∀ k, ov'.ownBlock = some k → ¬ RngH lo hi k := fun k hk => by
      rcases HAT.out with h | ⟨b, h1, h2⟩
      · exact dv k (h ▸ hk)
      · rw [h1] at hk; injection hk with hk; subst hk; exact fun h => by have := h.2; omega
    clear hS5 hO5 hm5 hat e0
    have d2 : w5.cell? ⟨s, 2, none⟩ = some (.pointer (some ⟨m, 0, none⟩)) := by simpa using HS5.out.cell 2
    have e2 : w5.cell? ⟨pk, 2, none⟩ = some (.pointer (some ⟨st, 0, none⟩)) := by simpa using HK5.out.cell 2
    have HIs := hid' (fun W (h : Dr w5 W) => idle_Is st tmo u (iEnd is 3) W (by obtain ⟨k, rfl⟩ := h; exact HI5.out))
    have HMI := hid' (fun W (h : Dr w5 W) => merge_Is lo hi m marks iss now (i : Int) (iEnd is 3) W (by obtain ⟨k, rfl⟩ := h; exact HM5.out))
    go_wp2
    go_region_held3 (fun w' => w'.cell? ⟨s, 2, none⟩ = some (.pointer (some ⟨m, 0, none⟩)) ∧ w'.cell? ⟨pk, 2, none⟩ = some (.pointer (some ⟨st, 0, none⟩)))
      (first | exact ⟨d2, e2⟩ | exact hcell)
      (first
        | (go_at_call 54; refine (HIs.out _ (by repeat (first | exact Dr.refl _ | apply Dr.step | apply Dr.stepd))).mono ?_; rintro e w' ⟨rfl, rfl⟩)
        | (go_at_call 82; refine (HMI.out _ (by repeat (first | exact Dr.refl _ | apply Dr.step | apply Dr.stepd))).mono ?_; rintro e w6 ⟨rfl, hM6, hm6⟩; have hcell := And.intro (hm6.cell d2 ds) (hm6.cell e2 hpk)))
    have HM6 := hid' hM6
    have HMm6 := hid' (show Mod (RngH lo hi) w5 w6 from ⟨hm6.os, hm6.tape, hm6.output, hm6.size, hm6.block⟩)
    clear hM6 hm6 hcell d2 e2
    go_wp2
    go_end0
    exact ⟨rfl, ov', HS5.out.mod HMm6.out ds, Blk.mod HI5.out HMm6.out dst, HM6.out, own_mod HO5.out HMm6.out dv', HMm5.out.trans (HMm6.out.mono (fun i _ h => .inr (.inl h))), HAT.out⟩
end Go.Proofs.YtockkjhciojgbaaGreatDoor
/- SrcB -/
/- The engine (package source): each, has, and what a source tells of itself, walked. No condition. -/
namespace Go.Proofs.YtockkjhciojgbaaGreatDoor
set_option maxRecDepth 100000
set_option linter.unusedSimpArgs false
open Go.RowKit
set_option linter.unusedVariables false
set_option linter.unusedSimpArgs false

/-- For each place: settled. -/
theorem source_each (n s : Nat) (hn : n ≤ 1000) (Inv : Nat → World → Prop) (h : ∀ i w, i < n → Inv i w → Calls Tryz.prog 48 #[.pointer (some ⟨s, 0, none⟩), .int .i64 (i : Int)] w fun e w' => e = .returned (.tuple #[]) ∧ Inv (i + 1) w') (w : World) (h0 : Inv 0 w) :
    Calls Tryz.prog 47 #[.int .i64 (n : Int), .func (.func 48) #[.pointer (some ⟨s, 0, none⟩)] #[]] w fun e w' => e = .returned (.tuple #[]) ∧ Inv n w' := by
  have HH := hid' h
  have H0 := hid' h0
  clear h h0
  go_enter Tryz.func47, Tryz.ntmps47
  go_wp2
  go_loopw [4, 6] (fun v4 v6 wr => ∃ k : Nat, k ≤ n ∧ v6 = .int .i64 k ∧ Hid (Inv k wr)) (fun _ v6 _ => n - (intOf v6).toNat)
  case atStart => exact ⟨0, Nat.zero_le _, rfl, H0.out⟩
  case round =>
    obtain ⟨k, hk, rfl, hI⟩ := hrel
    by_cases hlt : k < n
    · have HC := hid' (HH.out k wr hlt hI.out)
      go_wp2_with fail
      refine HC.out.mono ?_
      rintro e w' ⟨rfl, hI2⟩
      have HI2 := hid' hI2
      clear hI2
      go_wp2
      go_roundw
      case rel => exact ⟨k + 1, by omega, by go_num, HI2.out⟩
      case measure => simp [intOf]; omega
    · obtain rfl : k = n := by omega
      go_wp2
      go_end0
      exact ⟨rfl, hI.out⟩
/-- Is there such a partition? -/
theorem source_has (s N pc i : Nat) (ad : Addr) (p1 p2 p3 p4 p5 : Value) (w : World) (hS : Blk w s 86 #[.slice (some ad) N pc, p1, p2, p3, p4, p5]) (hi : i < N) (hN : N ≤ 1000) :
    Calls Tryz.prog 53 #[.pointer (some ⟨s, 0, none⟩), .int .i64 (i : Int)] w fun e w' => e = .returned (.bool true) ∧ w = w' := by
  have c0 : w.cell? ⟨s, 0, none⟩ = some (.slice (some ad) N pc) := by simpa using hS.cell 0
  have h1 : decide ((i : Int) < (N : Int)) = true := decide_eq_true (by omega)
  have h2 : decide ((0 : Int) ≤ (i : Int)) = true := decide_eq_true (by omega)
  have h3 : decide (i < N) = true := decide_eq_true hi
  clear hS
  go_enter Tryz.func53, Tryz.ntmps53
  go_wp2
  go_ret
  exact ⟨rfl, rfl⟩
theorem source_Status (s N pc i st : Nat) (ad : Addr) (tmo u is : Int) (p1 p2 p3 p4 p5 : Value) (w : World) (hS : Blk w s 86 #[.slice (some ad) N pc, p1, p2, p3, p4, p5]) (hi : i < N) (hN : N ≤ 1000)
    (h2 : w.cell? ⟨(ad.add (i * 3)).block, (ad.add (i * 3)).off + 2, none⟩ = some (.pointer (some ⟨st, 0, none⟩))) (hI : IdleB w st tmo u is) :
    Calls Tryz.prog 23 #[.pointer (some ⟨s, 0, none⟩), .int .i64 (i : Int)] w fun e w' => e = .returned (.int .i64 is) ∧ w = w' := by
  have HH := hid' (source_has s N pc i ad p1 p2 p3 p4 p5 w hS hi hN)
  have c0 : w.cell? ⟨s, 0, none⟩ = some (.slice (some ad) N pc) := by simpa using hS.cell 0
  have hiI : (i : Int) < (N : Int) := by omega
  have HI := hid' (idle_Is st tmo u is w hI)
  clear hS hI
  go_enter Tryz.func23, Tryz.ntmps23
  go_wp2_with fail
  refine HH.out.mono ?_
  rintro e w' ⟨rfl, rfl⟩
  go_wp2_with fail
  refine HI.out.mono ?_
  rintro e w' ⟨rfl, rfl⟩
  go_wp2
  go_ret
  exact ⟨rfl, rfl⟩
theorem source_Count (s N pc i c : Nat) (ad : Addr) (text : ByteArray) (at_ cnt : Nat) (p1 p2 p3 p4 p5 : Value) (w : World) (hS : Blk w s 86 #[.slice (some ad) N pc, p1, p2, p3, p4, p5]) (hi : i < N) (hN : N ≤ 1000)
    (h0 : w.cell? (ad.add (i * 3)) = some (.pointer (some ⟨c, 0, none⟩))) (hC : CurI w c text at_ cnt) :
    Calls Tryz.prog 24 #[.pointer (some ⟨s, 0, none⟩), .int .i64 (i : Int)] w fun e w' => e = .returned (.int .i64 (cnt : Int)) ∧ w = w' := by
  have HH := hid' (source_has s N pc i ad p1 p2 p3 p4 p5 w hS hi hN)
  have c0 : w.cell? ⟨s, 0, none⟩ = some (.slice (some ad) N pc) := by simpa using hS.cell 0
  have hiI : (i : Int) < (N : Int) := by omega
  have HI := hid' (cursor_Count c text at_ cnt w hC)
  clear hS hC
  go_enter Tryz.func24, Tryz.ntmps24
  go_wp2_with fail
  refine HH.out.mono ?_
  rintro e w' ⟨rfl, rfl⟩
  go_wp2_with fail
  refine HI.out.mono ?_
  rintro e w' ⟨rfl, rfl⟩
  go_wp2
  go_ret
  exact ⟨rfl, rfl⟩
theorem source_Mark (s lo hi m : Nat) (i : Int) (marks iss : List Int) (now : Int) (p0 p1 p3 p4 p5 : Value) (w : World) (hS : Blk w s 86 #[p0, p1, .pointer (some ⟨m, 0, none⟩), p3, p4, p5]) (hM : IsMerge w lo hi m marks iss now) :
    Calls Tryz.prog 25 #[.pointer (some ⟨s, 0, none⟩), .int .i64 i] w fun e w' => e = .returned (.int .i64 (treeKey marks i)) ∧ w = w' := by
  have c2 : w.cell? ⟨s, 2, none⟩ = some (.pointer (some ⟨m, 0, none⟩)) := by simpa using hS.cell 2
  have HI := hid' (merge_At lo hi m marks iss now i w hM)
  clear hS hM
  go_enter Tryz.func25, Tryz.ntmps25
  go_wp2_with fail
  refine HI.out.mono ?_
  rintro e w' ⟨rfl, rfl⟩
  go_wp2
  go_ret
  exact ⟨rfl, rfl⟩
theorem source_Now (s lo hi m : Nat) (marks iss : List Int) (now : Int) (p0 p1 p3 p4 p5 : Value) (w : World) (hS : Blk w s 86 #[p0, p1, .pointer (some ⟨m, 0, none⟩), p3, p4, p5]) (hM : IsMerge w lo hi m marks iss now) :
    Calls Tryz.prog 26 #[.pointer (some ⟨s, 0, none⟩)] w fun e w' => e = .returned (.int .i64 now) ∧ w = w' := by
  have c2 : w.cell? ⟨s, 2, none⟩ = some (.pointer (some ⟨m, 0, none⟩)) := by simpa using hS.cell 2
  have HI := hid' (merge_Now lo hi m marks iss now w hM)
  clear hS hM
  go_enter Tryz.func26, Tryz.ntmps26
  go_wp2_with fail
  refine HI.out.mono ?_
  rintro e w' ⟨rfl, rfl⟩
  go_wp2
  go_ret
  exact ⟨rfl, rfl⟩
theorem source_Time (s : Nat) (clk : Int) (p0 p2 p3 p4 p5 : Value) (w : World) (hS : Blk w s 86 #[p0, .int .i64 clk, p2, p3, p4, p5]) :
    Calls Tryz.prog 27 #[.pointer (some ⟨s, 0, none⟩)] w fun e w' => e = .returned (.int .i64 clk) ∧ w = w' := by
  have c1 : w.cell? ⟨s, 1, none⟩ = some (.int .i64 clk) := by simpa using hS.cell 1
  have HI := hid' (clock_Now s 1 clk w c1)
  clear hS
  go_enter Tryz.func27, Tryz.ntmps27
  go_wp2_with fail
  refine HI.out.mono ?_
  rintro e w' ⟨rfl, rfl⟩
  go_wp2
  go_ret
  exact ⟨rfl, rfl⟩
/-- All events that came out, anew. -/
theorem source_Events (s B n : Nat) (p0 p1 p2 p3 ov p5 : Value) (out : List Ev) (w : World) (hS : Blk w s 86 #[p0, p1, p2, p3, ov, p5]) (hO : w.ownsRow B 101 1 ov out.length (out.map evV)) (hn : out.length ≤ 1000000) :
    Calls Tryz.prog 21 #[.pointer (some ⟨s, 0, none⟩)] w fun e w' => ∃ v, e = .returned v ∧ w'.ownsRow w.heap.size 101 1 v out.length (out.map evV) ∧ Below w.heap.size w w' := by
  obtain ⟨A, c, rfl, hle, hcm, hrd⟩ := own_rd hO
  have c4 : w.cell? ⟨s, 4, none⟩ = some (.slice A out.length c) := by simpa using hS.cell 4
  have HR := hid' (run_app (P := Tryz.prog) w w.heap.size 53 53 101 .nilIface 1 16 Tryz.underlying53 (by kernel_rfl) rfl (by decide) (.slice none 0 0) 0 [] (own_nil' _ _ _ _) A out.length c (out.map evV) (by simp) hrd (by intro u hu; obtain ⟨y, _, rfl⟩ := List.mem_map.1 hu; exact evV_one y) (by unfold maxLen; omega) (by omega) (Nat.le_refl _))
  clear hS hO hrd
  go_enter Tryz.func21, Tryz.ntmps21
  go_wp2_with (at_builtin; (refine wpList_append_ex2 rfl _ _ 53 53 rfl (.slice none 0 0) (.slice A out.length c) rfl rfl _ HR.out ?_); rintro v1 w1 ⟨hown, hg, hat⟩)
  have HB := hid' (bel_mod (bel_refl w) (grown_mod hg) (fun i hi e => by simp [Value.ownBlock] at e))
  have HO := hid' hown
  clear hown hg hat
  go_wp2
  go_ret
  exact ⟨v1, rfl, by simpa using HO.out, HB.out⟩
end Go.Proofs.YtockkjhciojgbaaGreatDoor
/- Eng -/
/- The engine (package source) as a whole: its memory as one fact, each block with its owner; settled, time gone on. No condition. -/
namespace Go.Proofs.YtockkjhciojgbaaGreatDoor
set_option maxRecDepth 100000
set_option linter.unusedSimpArgs false
open Go.RowKit
set_option linter.unusedVariables false
set_option linter.unusedSimpArgs false

open Classical in
/-- owners of blocks, where some have another one -/
noncomputable def ovr (o : Nat → Nat) (S : Nat → Prop) (id : Nat) : Nat → Nat := fun k => if S k then id else o k
theorem ovr_in {o : Nat → Nat} {S : Nat → Prop} {id k : Nat} (h : S k) : ovr o S id k = id := by unfold ovr; rw [if_pos h]
theorem ovr_out {o : Nat → Nat} {S : Nat → Prop} {id k : Nat} (h : ¬ S k) : ovr o S id k = o k := by unfold ovr; rw [if_neg h]

structure PSt where
  text : ByteArray
  at_ : Nat
  cnt : Nat
  g : GSt
  tmo : Int
  u : Int
  is : Int
structure ESt where
  parts : List PSt
  clk : Int
  drift : Int
  marks : List Int
  iss : List Int
  now : Int
  glob : Int
  loc : List Int
  out : List Ev
  begun : Int
structure Rep where
  c : Nat
  gt : TypeId
  gv : Value
  st : Nat
def repC (r : Rep) : List Value := [.pointer (some ⟨r.c, 0, none⟩), .iface r.gt r.gv, .pointer (some ⟨r.st, 0, none⟩)]
theorem repC_len (r : Rep) : (repC r).length = 3 := rfl
/-- One partition. -/
def IsPart (w : World) (o : Nat → Nat) (i : Nat) (r : Rep) (p : PSt) : Prop :=
  CurI w r.c p.text p.at_ p.cnt ∧ p.text.size ≤ 200000 ∧ IdleB w r.st p.tmo p.u p.is ∧ I64 p.tmo ∧ IsGen w (fun k => o k = 3 * i + 12) r.gt r.gv p.g ∧ o r.c = 3 * i + 10 ∧ o r.st = 3 * i + 11
theorem IsPart.mod {w w' : World} {o : Nat → Nat} {i : Nat} {r : Rep} {p : PSt} {S : Nat → Prop} (h : IsPart w o i r p) (hm : Mod S w w') (hs : ∀ k, o k = 3 * i + 10 ∨ o k = 3 * i + 11 ∨ o k = 3 * i + 12 → ¬ S k) : IsPart w' o i r p := by
  obtain ⟨h1, h2, h3, h4, h5, h6, h7⟩ := h
  exact ⟨h1.mod hm (hs _ (.inl h6)), h2, h3.mod hm (hs _ (.inr (.inl h7))), h4, h5.mod hm (fun k hk => hs k (.inr (.inr hk))), h6, h7⟩
theorem IsPart.own {w : World} {o o' : Nat → Nat} {i : Nat} {r : Rep} {p : PSt} (h : IsPart w o i r p) (ho : ∀ k, k < w.heap.size → o' k = o k) : IsPart w o' i r p := by
  obtain ⟨h1, h2, h3, h4, h5, h6, h7⟩ := h
  exact ⟨h1, h2, h3, h4, h5.mono (fun k hk e => (ho k hk).trans e), (ho _ h1.1.lt).trans h6, (ho _ (Blk.lt h3)).trans h7⟩
theorem IsPart.step {w w' : World} {o o' : Nat → Nat} {i : Nat} {r : Rep} {p : PSt} {S : Nat → Prop} (h : IsPart w o i r p) (he : ∀ k, k < w.heap.size → o' k = o k) (hm : Mod S w w') (hs : ∀ k, S k → o' k ≠ 3 * i + 10 ∧ o' k ≠ 3 * i + 11 ∧ o' k ≠ 3 * i + 12) : IsPart w' o' i r p :=
  (h.own he).mod hm (fun k hk hk' => by have := hs k hk'; omega)
/-- The parts of a source: where each lies, and who owns it. -/
structure Lay where
  m : Nat
  lo : Nat
  hi : Nat
  ga : Nat
  ba : Nat
  pv : Value
  ov : Value
  reps : List Rep
def IsSrcL (w : World) (B s : Nat) (o : Nat → Nat) (E : ESt) (L : Lay) : Prop :=
  Blk w s 86 #[L.pv, .int .i64 E.clk, .pointer (some ⟨L.m, 0, none⟩), .pointer (some ⟨L.ga, 0, none⟩), L.ov, .int .i64 E.begun] ∧
  w.ownsRow B 97 3 L.pv E.parts.length (L.reps.flatMap repC) ∧ L.reps.length = E.parts.length ∧ IsMerge w L.lo L.hi L.m E.marks E.iss E.now ∧ AlignB w L.ga L.ba E.drift E.glob E.loc ∧
  w.ownsRow B 101 1 L.ov E.out.length (E.out.map evV) ∧
  (∀ i r p, L.reps[i]? = some r → E.parts[i]? = some p → IsPart w o i r p) ∧
  (o s = 1 ∧ (∀ k, RngH L.lo L.hi k → o k = 2) ∧ o L.ga = 3 ∧ o L.ba = 4 ∧ (∀ k, L.ov.ownBlock = some k → o k = 5) ∧ ∀ k, L.pv.ownBlock = some k → o k = 6) ∧
  (∀ k, o k ≠ 0 → B ≤ k ∧ k < w.heap.size) ∧ (E.parts.length ≤ 1000 ∧ E.loc.length ≤ 1000 ∧ I64 E.clk)
def IsSrc (w : World) (B s : Nat) (o : Nat → Nat) (E : ESt) : Prop := ∃ L, IsSrcL w B s o E L
theorem IsSrcL.mod {w w' : World} {B s : Nat} {o : Nat → Nat} {E : ESt} {L : Lay} {S : Nat → Prop} (h : IsSrcL w B s o E L) (hm : Mod S w w') (hs : ∀ k, o k ≠ 0 → ¬ S k) : IsSrcL w' B s o E L := by
  obtain ⟨h1, h2, h3, h4, h5, h6, h7, ⟨o1, o2, o3, o4, o5, o6⟩, h9, h10⟩ := h
  exact ⟨h1.mod hm (hs _ (by omega)), own_mod h2 hm (fun k hk => hs _ (by rw [o6 k hk]; decide)), h3, h4.mod hm (fun k e1 e2 => hs k (by rw [o2 k ⟨e1, e2⟩]; decide)), h5.mod hm (hs _ (by omega)) (hs _ (by omega)),
    own_mod h6 hm (fun k hk => hs _ (by rw [o5 k hk]; decide)), fun i r p hr hp => (h7 i r p hr hp).mod hm (fun k hk => hs k (by omega)), ⟨o1, o2, o3, o4, o5, o6⟩, fun k hk => by have := h9 k hk; have := hm.size; omega, h10⟩
theorem IsSrc.mod {w w' : World} {B s : Nat} {o : Nat → Nat} {E : ESt} {S : Nat → Prop} (h : IsSrc w B s o E) (hm : Mod S w w') (hs : ∀ k, o k ≠ 0 → ¬ S k) : IsSrc w' B s o E := by
  obtain ⟨L, h⟩ := h; exact ⟨L, h.mod hm hs⟩
theorem IsSrc.below {w w' : World} {B s : Nat} {o : Nat → Nat} {E : ESt} (h : IsSrc w B s o E) (hb : Below w.heap.size w w') : IsSrc w' B s o E :=
  h.mod (Mod.of_below (S := fun _ => False) hb) (fun _ _ h => h)
theorem IsSrcL.below {w w' : World} {B s : Nat} {o : Nat → Nat} {E : ESt} {L : Lay} (h : IsSrcL w B s o E L) (hb : Below w.heap.size w w') : IsSrcL w' B s o E L :=
  h.mod (Mod.of_below (S := fun _ => False) hb) (fun _ _ h => h)
/-- owners that differ at most where nothing was -/
def Ext (w : World) (o o' : Nat → Nat) : Prop := ∀ k, k < w.heap.size → o' k = o k
theorem Ext.refl (w : World) (o : Nat → Nat) : Ext w o o := fun _ _ => rfl
theorem Ext.trans {w w1 : World} {o o1 o2 : Nat → Nat} (h : Ext w o o1) (k : Ext w1 o1 o2) (hs : w.heap.size ≤ w1.heap.size) : Ext w o o2 := fun i hi => (k i (by omega)).trans (h i hi)
/-- what a call of the engine may change, and nothing else -/
def Step (w w' : World) (B s : Nat) (o : Nat → Nat) (E : ESt) : Prop := ∃ o', IsSrc w' B s o' E ∧ Mod (fun k => o k ≠ 0) w w' ∧ Ext w o o'
theorem Step.then_ {w w1 w2 : World} {B s : Nat} {o o1 : Nat → Nat} {E1 E2 : ESt} (h1 : Mod (fun k => o k ≠ 0) w w1) (h2 : Ext w o o1) (k : Step w1 w2 B s o1 E2) : Step w w2 B s o E2 := by
  obtain ⟨o2, hS, hm, he⟩ := k
  exact ⟨o2, hS, h1.then_ hm (fun i hi hk => by rwa [h2 i hi] at hk), h2.trans he h1.size⟩
/-- the row of events has grown -/
noncomputable def grownO (o : Nat → Nat) (N : Nat) (ov : Value) (id : Nat) : Nat → Nat := ovr o (fun k => N ≤ k ∧ ov.ownBlock = some k) id
theorem grownO_lo {o : Nat → Nat} {N : Nat} {ov : Value} {id k : Nat} (h : k < N) : grownO o N ov id k = o k := ovr_out (fun h' => by have := h'.1; omega)
theorem grownO_at {o : Nat → Nat} {N : Nat} {ov ov' : Value} {id : Nat} (h : ∀ k, ov.ownBlock = some k → o k = id) (ha : ov'.ownBlock = ov.ownBlock ∨ ∃ b, ov'.ownBlock = some b ∧ N ≤ b) (k : Nat) (hk : ov'.ownBlock = some k) : grownO o N ov' id k = id := by
  by_cases hN : N ≤ k
  · exact ovr_in ⟨hN, hk⟩
  · rw [grownO_lo (by omega)]
    rcases ha with e | ⟨b, e, hb⟩
    · exact h k (e ▸ hk)
    · rw [e] at hk; injection hk with hk; omega
theorem grownO_sup {o : Nat → Nat} {B N M : Nat} {ov : Value} {id : Nat} (h : ∀ k, o k ≠ 0 → B ≤ k ∧ k < N) (hB : B ≤ N) (hM : N ≤ M) (hv : ∀ k, ov.ownBlock = some k → k < M) (k : Nat) (hk : grownO o N ov id k ≠ 0) : B ≤ k ∧ k < M := by
  by_cases hN : N ≤ k ∧ ov.ownBlock = some k
  · exact ⟨by omega, hv k hN.2⟩
  · unfold grownO at hk
    rw [ovr_out (S := fun k => N ≤ k ∧ ov.ownBlock = some k) hN] at hk
    have := h k hk
    omega
/-! ### settled; time gone on -/
def settleE (E : ESt) (i : Nat) (p : PSt) : ESt :=
  { E with parts := E.parts.set i { p with is := setIs p.is (cSt p.text p.at_) }, iss := alSet E.iss (i : Int) (setIs p.is (cSt p.text p.at_)), out := E.out ++ if cSt p.text p.at_ = 2 then [.fault (i : Int) (cLook p.text p.at_).2.2] else [] }
def advE (E : ESt) : ESt :=
  { E with now := max E.now (mergeLeast E.marks E.iss), glob := if E.now < mergeLeast E.marks E.iss then mergeLeast E.marks E.iss else E.glob, out := E.out ++ if E.now < mergeLeast E.marks E.iss then [.mark (mergeLeast E.marks E.iss)] else [] }
theorem len_if {α : Type} (l : List α) (c : Prop) [Decidable c] (x : α) : (l ++ if c then [x] else []).length = l.length + if c then 1 else 0 := by split <;> simp
theorem map_if {α β : Type} (f : α → β) (l : List α) (c : Prop) [Decidable c] (x : α) : (l ++ if c then [x] else []).map f = l.map f ++ if c then [f x] else [] := by split <;> simp
theorem rep_at {w : World} {B : Nat} {v : Value} {n : Nat} {reps : List Rep} {i : Nat} {r : Rep} (h : w.ownsRow B 97 3 v n (reps.flatMap repC)) (hr : reps[i]? = some r) :
    ∃ ad pc, v = .slice (some ad) n pc ∧ w.cell? (ad.add (i * 3)) = some (.pointer (some ⟨r.c, 0, none⟩)) ∧ w.cell? ⟨(ad.add (i * 3)).block, (ad.add (i * 3)).off + 1, none⟩ = some (.iface r.gt r.gv) ∧ w.cell? ⟨(ad.add (i * 3)).block, (ad.add (i * 3)).off + 2, none⟩ = some (.pointer (some ⟨r.st, 0, none⟩)) := by
  obtain ⟨A, c, rfl, hle, hcm, hrd⟩ := own_rd h
  have hR := RdS.of_rd' (sz := 3) (f := repC) repC_len (by decide) hrd
  obtain ⟨ad, rfl, hl, hc⟩ := hR i r hr
  exact ⟨ad, c, rfl, hc 0 _ rfl, hc 1 _ rfl, hc 2 _ rfl⟩
theorem IsMerge.I64s {w : World} {lo hi m : Nat} {marks iss : List Int} {now : Int} (h : IsMerge w lo hi m marks iss now) : ∀ x ∈ marks, I64 x := by
  obtain ⟨a, s, t0, l0, h0, t1, l1, h1, bi, hB, hn, hr, hx⟩ := h; exact hx
theorem IsMerge.hi_le {w : World} {lo hi m : Nat} {marks iss : List Int} {now : Int} {B : Nat} {o : Nat → Nat} (ho : ∀ k, RngH lo hi k → o k = 2) (h9 : ∀ k, o k ≠ 0 → B ≤ k ∧ k < w.heap.size) (h : IsMerge w lo hi m marks iss now) : hi ≤ w.heap.size := by
  obtain ⟨a, s, t0, l0, h0, t1, l1, h1, bi, hB, hn, hr, hx⟩ := h
  have h1 := ho (hi - 1) ⟨by omega, by omega⟩
  have := h9 (hi - 1) (by rw [h1]; decide)
  omega
theorem src_settle {w : World} {B s : Nat} {o : Nat → Nat} {E : ESt} (h : IsSrc w B s o E) (i : Nat) (p : PSt) (hp : E.parts[i]? = some p) (hn : E.out.length ≤ 1000000) :
    Calls Tryz.prog 48 #[.pointer (some ⟨s, 0, none⟩), .int .i64 (i : Int)] w fun e w' => e = .returned (.tuple #[]) ∧ Step w w' B s o (settleE E i p) := by
  obtain ⟨⟨m, lo, hi, ga, ba, pv, ov, reps⟩, h⟩ := h
  unfold IsSrcL at h
  dsimp only at h
  obtain ⟨h1, h2, h3, h4, h5, h6, h7, ⟨o1, o2, o3, o4, o5, o6⟩, h9, h10⟩ := h
  have hiN : i < E.parts.length := (List.getElem?_eq_some_iff.1 hp).1
  obtain ⟨r, hr⟩ : ∃ r, reps[i]? = some r := ⟨_, List.getElem?_eq_getElem (by omega)⟩
  obtain ⟨q1, q2, q3, q4, q5, q6, q7⟩ := h7 i r p hr hp
  obtain ⟨ad, pc, hpv, c0, c1, c2⟩ := rep_at h2 hr
  rw [hpv] at h1
  have hB : B ≤ w.heap.size := by have := h9 s (by omega); omega
  refine (source_settle s B E.out.length lo hi m r.c r.st E.parts.length pc i ad _ _ ov _ r.gv r.gt E.marks E.iss E.now p.text p.at_ p.cnt p.tmo p.u p.is (E.out.map evV) w h1 hiN h10.1 c0 c1 c2 q1 q2 q3 h4 h6 hB hn
    (fun hh => by have := o2 _ hh; omega) (fun hh => by have := o2 _ hh; omega) (fun k hk hh => by have := o2 _ hh; have := o5 k hk; omega) (IsMerge.hi_le o2 h9 h4)).mono ?_
  rintro e w' ⟨rfl, ov', g1, g2, g3, g4, gm, gat⟩
  have hS : ∀ k, (k = s ∨ RngH lo hi k ∨ k = r.st ∨ ov.ownBlock = some k) → (o k = 1 ∨ o k = 2 ∨ o k = 3 * i + 11 ∨ o k = 5) ∧ k < w.heap.size := by
    intro k hk
    have : o k = 1 ∨ o k = 2 ∨ o k = 3 * i + 11 ∨ o k = 5 := by
      rcases hk with rfl | hk | rfl | hk
      · exact .inl o1
      · exact .inr (.inl (o2 k hk))
      · exact .inr (.inr (.inl q7))
      · exact .inr (.inr (.inr (o5 k hk)))
    exact ⟨this, (h9 k (by omega)).2⟩
  have hS' : ∀ k, (k = s ∨ RngH lo hi k ∨ k = r.st ∨ ov.ownBlock = some k) → (grownO o w.heap.size ov' 5 k = 1 ∨ grownO o w.heap.size ov' 5 k = 2 ∨ grownO o w.heap.size ov' 5 k = 3 * i + 11 ∨ grownO o w.heap.size ov' 5 k = 5) := by
    intro k hk
    rw [grownO_lo (hS k hk).2]
    exact (hS k hk).1
  have hlo : ∀ k, k < w.heap.size → grownO o w.heap.size ov' 5 k = o k := fun k hk => grownO_lo hk
  refine ⟨rfl, grownO o w.heap.size ov' 5, ⟨⟨m, lo, hi, ga, ba, pv, ov', reps⟩, ?_⟩, gm.mono (fun k _ hk => by have := hS k hk; omega), fun k hk => grownO_lo hk⟩
  unfold IsSrcL
  dsimp only
  refine ⟨by rw [hpv]; exact g1, ?_, by simp [settleE, h3], g3, h5.mod gm (fun hk => by have := hS _ hk; omega) (fun hk => by have := hS _ hk; omega), ?_, ?_, ⟨?_, ?_, ?_, ?_, grownO_at o5 gat, ?_⟩, grownO_sup h9 hB gm.size (fun k hk => own_lt' g4 k hk), ?_⟩
  · simp only [settleE, List.length_set]
    exact own_mod h2 gm (fun k hk hk' => by have := hS _ hk'; have := o6 k hk; omega)
  · simp only [settleE]
    rw [len_if, map_if]
    exact g4
  · intro j r' p' hr' hp'
    simp only [settleE] at hp'
    rw [List.getElem?_set] at hp'
    split at hp'
    · rename_i hij
      subst hij
      injection hp' with hp'
      subst hp'
      rw [hr] at hr'
      injection hr' with hr'
      subst hr'
      obtain ⟨u1, u2, u3, u4, u5, u6, u7⟩ := (h7 i r p hr hp).own hlo
      exact ⟨u1.mod gm (fun hk => by have := hS' _ hk; omega), u2, g2, u4, u5.mod gm (fun k hk hk' => by have := hS' _ hk'; omega), u6, u7⟩
    · rename_i hij
      exact (h7 j r' p' hr' hp').step hlo gm (fun k hk => by have := hS' k hk; omega)
  · rw [hlo _ (hS _ (.inl rfl)).2]; exact o1
  · intro k hk; rw [hlo _ (hS _ (.inr (.inl hk))).2]; exact o2 k hk
  · rw [hlo _ (h9 _ (by omega)).2]; exact o3
  · rw [hlo _ (h9 _ (by omega)).2]; exact o4
  · intro k hk; rw [hlo _ (h9 _ (by rw [o6 k hk]; decide)).2]; exact o6 k hk
  · simpa [settleE] using h10
theorem src_advance {w : World} {B s : Nat} {o : Nat → Nat} {E : ESt} (h : IsSrc w B s o E) (hn : E.out.length ≤ 1000000) :
    Calls Tryz.prog 49 #[.pointer (some ⟨s, 0, none⟩)] w fun e w' => e = .returned (.tuple #[]) ∧ Step w w' B s o (advE E) := by
  obtain ⟨⟨m, lo, hi, ga, ba, pv, ov, reps⟩, h⟩ := h
  unfold IsSrcL at h
  dsimp only at h
  obtain ⟨h1, h2, h3, h4, h5, h6, h7, ⟨o1, o2, o3, o4, o5, o6⟩, h9, h10⟩ := h
  have hB : B ≤ w.heap.size := by have := h9 s (by omega); omega
  refine (source_advance s B E.out.length lo hi m ga ba _ _ ov _ E.marks E.iss E.loc E.now E.drift E.glob (E.out.map evV) w h1 h4 h5 h6 hB hn h10.2.1 (mergeLeast_I64 _ h4.I64s)
    (fun hh => by have := o2 _ hh; omega) (fun hh => by have := o2 _ hh; omega) (fun hh => by have := o2 _ hh; omega) (fun k hk hh => by have := o2 _ hh; have := o5 k hk; omega) (IsMerge.hi_le o2 h9 h4)).mono ?_
  rintro e w' ⟨rfl, ov', g1, g3, g2, g4, gm, gat⟩
  have hS : ∀ k, (k = s ∨ RngH lo hi k ∨ k = ga ∨ ov.ownBlock = some k) → (o k = 1 ∨ o k = 2 ∨ o k = 3 ∨ o k = 5) ∧ k < w.heap.size := by
    intro k hk
    have : o k = 1 ∨ o k = 2 ∨ o k = 3 ∨ o k = 5 := by
      rcases hk with rfl | hk | rfl | hk
      · exact .inl o1
      · exact .inr (.inl (o2 k hk))
      · exact .inr (.inr (.inl o3))
      · exact .inr (.inr (.inr (o5 k hk)))
    exact ⟨this, (h9 k (by omega)).2⟩
  have hlo : ∀ k, k < w.heap.size → grownO o w.heap.size ov' 5 k = o k := fun k hk => grownO_lo hk
  refine ⟨rfl, grownO o w.heap.size ov' 5, ⟨⟨m, lo, hi, ga, ba, pv, ov', reps⟩, ?_⟩, gm.mono (fun k _ hk => by have := hS k hk; omega), hlo⟩
  unfold IsSrcL
  dsimp only
  refine ⟨g1, own_mod h2 gm (fun k hk hk' => by have := hS _ hk'; have := o6 k hk; omega), h3, g3, g2, ?_, ?_, ⟨?_, ?_, ?_, ?_, grownO_at o5 gat, ?_⟩, grownO_sup h9 hB gm.size (fun k hk => own_lt' g4 k hk), h10⟩
  · simp only [advE]
    rw [len_if, map_if]
    exact g4
  · intro j r' p' hr' hp'
    exact (h7 j r' p' hr' hp').step hlo gm (fun k hk => by rw [hlo k (hS k hk).2]; have := hS k hk; omega)
  · rw [hlo _ (h9 _ (by omega)).2]; exact o1
  · intro k hk; rw [hlo _ (hS _ (.inr (.inl hk))).2]; exact o2 k hk
  · rw [hlo _ (h9 _ (by omega)).2]; exact o3
  · rw [hlo _ (h9 _ (by omega)).2]; exact o4
  · intro k hk; rw [hlo _ (h9 _ (by rw [o6 k hk]; decide)).2]; exact o6 k hk
end Go.Proofs.YtockkjhciojgbaaGreatDoor
/- EngNew -/
/- The engine (package source): made, of any configuration and logs. No condition. -/
namespace Go.Proofs.YtockkjhciojgbaaGreatDoor
set_option maxRecDepth 100000
set_option linter.unusedSimpArgs false
open Go.RowKit
set_option linter.unusedVariables false
set_option linter.unusedSimpArgs false

/-- a partition ahead of all -/
def part0 (tmo : Int) (x : Rl × ByteArray) : PSt := ⟨x.2, 0, 0, gen0 x.1, tmo, satAdd 0 (max tmo 0), 0⟩
/-- a source on its way: so many partitions -/
def newE (ps : List PSt) (d : Int) (n : Nat) : ESt := ⟨ps, 0, d, List.replicate n NEV, List.replicate n 0, NEV, NEV, List.replicate n NEV, [], 0⟩
def parts0 (rl : List Rl) (lg : List ByteArray) (tmo : Int) : List PSt := (rl.zip lg).map (part0 tmo)
theorem parts0_len {rl : List Rl} {lg : List ByteArray} {tmo : Int} (h : rl.length = lg.length) : (parts0 rl lg tmo).length = lg.length := by unfold parts0; simp; omega
theorem parts0_at {rl : List Rl} {lg : List ByteArray} {tmo : Int} {j : Nat} {r : Rl} {x : ByteArray} (h1 : rl[j]? = some r) (h2 : lg[j]? = some x) : (parts0 rl lg tmo)[j]? = some (part0 tmo (r, x)) := by
  unfold parts0; rw [List.getElem?_map, (List.getElem?_zip_eq_some (z := (r, x))).2 ⟨h1, h2⟩]; rfl
/-- One more partition. -/
theorem new_part {wr W4 : World} {B s : Nat} {o : Nat → Nat} {E : ESt} {L : Lay} (h : IsSrcL wr B s o E L) (p : PSt) (c st : Nat) (gt : TypeId) (gv v1 : Value) {N1 N2 : Nat} (W3 : World) (hb : Below wr.heap.size wr W3)
    (hC : CurI W3 c p.text p.at_ p.cnt) (hts : p.text.size ≤ 200000) (hI : IdleB W3 st p.tmo p.u p.is) (htI : I64 p.tmo) (hG : IsGen W3 (Own2 N1 N2) gt gv p.g) (hN : wr.heap.size ≤ N1) (hc : N2 ≤ c) (hst : N2 ≤ st) (hN12 : N1 ≤ N2)
    (hO : W4.ownsRow B 97 3 v1 (E.parts.length + 1) (L.reps.flatMap repC ++ [.pointer (some ⟨c, 0, none⟩), .iface gt gv, .pointer (some ⟨st, 0, none⟩)])) (hm : Mod (fun k => L.pv.ownBlock = some k) W3 W4)
    (hv : v1.ownBlock = L.pv.ownBlock ∨ ∃ b, v1.ownBlock = some b ∧ W3.heap.size ≤ b) (hl : E.parts.length < 1000) :
    ∃ o', IsSrc (W4.setCell ⟨s, 0, none⟩ v1) B s o' { E with parts := E.parts ++ [p] } ∧ Mod (fun k => o k ≠ 0) wr (W4.setCell ⟨s, 0, none⟩ v1) ∧ Ext wr o o' := by
  obtain ⟨m, lo, hi, ga, ba, pv, ov, reps⟩ := L
  unfold IsSrcL at h
  dsimp only at h hO hm hv
  obtain ⟨h1, h2, h3, h4, h5, h6, h7, ⟨o1, o2, o3, o4, o5, o6⟩, h9, h10⟩ := h
  have hB : B ≤ wr.heap.size := by have := h9 s (by omega); omega
  have hsl : s < wr.heap.size := h1.lt
  have hcl : c < W3.heap.size := hC.1.lt
  have hsl3 : st < W3.heap.size := Blk.lt hI
  have hcs : c ≠ st := Blk.ne hC.1 hI (by decide)
  have hsz := hb.size
  have hpv : ∀ k, pv.ownBlock = some k → k < wr.heap.size := fun k hk => own_lt' h2 k hk
  have hM35 : Mod (fun k => k = s ∨ pv.ownBlock = some k) W3 (W4.setCell ⟨s, 0, none⟩ v1) := (hm.mono (T := fun k => k = s ∨ pv.ownBlock = some k) (fun i _ h => .inr h)).setCell (p := ⟨s, 0, none⟩) (fun _ => .inl rfl) _
  have hM : Mod (fun k => k = s ∨ pv.ownBlock = some k) wr (W4.setCell ⟨s, 0, none⟩ v1) := (Mod.of_below hb).then_ hM35 (fun _ _ h => h)
  have hS : ∀ k, (k = s ∨ pv.ownBlock = some k) → (o k = 1 ∨ o k = 6) ∧ k < wr.heap.size := by
    rintro k (rfl | hk)
    · exact ⟨.inl o1, hsl⟩
    · exact ⟨.inr (o6 k hk), hpv k hk⟩
  obtain ⟨j, hj⟩ : ∃ j, j = E.parts.length := ⟨_, rfl⟩
  obtain ⟨o', ho'⟩ : ∃ o', o' = ovr (ovr (ovr (ovr o (fun k => wr.heap.size ≤ k ∧ v1.ownBlock = some k) 6) (Own2 N1 N2) (3 * j + 12)) (fun k => k = st) (3 * j + 11)) (fun k => k = c) (3 * j + 10) := ⟨_, rfl⟩
  have eC : o' c = 3 * j + 10 := by rw [ho']; exact ovr_in (S := fun k => k = c) rfl
  have eS : o' st = 3 * j + 11 := by rw [ho', ovr_out (S := fun k => k = c) (Ne.symm hcs)]; exact ovr_in (S := fun k => k = st) rfl
  have eG : ∀ k, Own2 N1 N2 k → o' k = 3 * j + 12 := by
    intro k hk
    have := hk.2
    rw [ho', ovr_out (S := fun k => k = c) (by omega), ovr_out (S := fun k => k = st) (by omega)]
    exact ovr_in hk
  have eR : ∀ k, k ≠ c → k ≠ st → ¬ Own2 N1 N2 k → o' k = ovr o (fun k => wr.heap.size ≤ k ∧ v1.ownBlock = some k) 6 k := by
    intro k a1 a2 a3
    rw [ho', ovr_out (S := fun k => k = c) a1, ovr_out (S := fun k => k = st) a2, ovr_out a3]
  have hlo : ∀ k, k < wr.heap.size → o' k = o k := by
    intro k hk
    rw [eR k (by omega) (by omega) (fun h => by have := h.1; omega)]
    exact ovr_out (S := fun k => wr.heap.size ≤ k ∧ v1.ownBlock = some k) (fun h => by have := h.1; omega)
  have eV : ∀ k, v1.ownBlock = some k → o' k = 6 := by
    intro k hk
    by_cases hkl : k < wr.heap.size
    · rw [hlo k hkl]
      rcases hv with e | ⟨b, e, hb3⟩
      · exact o6 k (e ▸ hk)
      · rw [e] at hk; injection hk with hk; omega
    · have hk3 : W3.heap.size ≤ k := by
        rcases hv with e | ⟨b, e, hb3⟩
        · rw [e] at hk; exact absurd (hpv k hk) hkl
        · rw [e] at hk; injection hk with hk; omega
      rw [eR k (by omega) (by omega) (fun h => by have := h.2; omega)]
      exact ovr_in (S := fun k => wr.heap.size ≤ k ∧ v1.ownBlock = some k) ⟨by omega, hk⟩
  have hsz5 := hM35.size
  have hvl : ∀ k, v1.ownBlock = some k → k < W4.heap.size := fun k hk => own_lt' hO k hk
  have hsz4 : (W4.setCell ⟨s, 0, none⟩ v1).heap.size = W4.heap.size := by simp
  have hsup : ∀ k, o' k ≠ 0 → B ≤ k ∧ k < (W4.setCell ⟨s, 0, none⟩ v1).heap.size := by
    intro k hk
    by_cases a0 : k < wr.heap.size
    · rw [hlo k a0] at hk; have := h9 k hk; omega
    by_cases a1 : k = c
    · omega
    by_cases a2 : k = st
    · omega
    by_cases a3 : Own2 N1 N2 k
    · have := a3.1; have := a3.2; omega
    rw [eR k a1 a2 a3] at hk
    by_cases a4 : wr.heap.size ≤ k ∧ v1.ownBlock = some k
    · have := hvl k a4.2; omega
    · rw [ovr_out (S := fun k => wr.heap.size ≤ k ∧ v1.ownBlock = some k) a4] at hk
      have := h9 k hk; omega
  have hne : v1.ownBlock ≠ some s := fun e => by have := eV s e; rw [hlo s hsl] at this; omega
  have hnp : pv.ownBlock ≠ some s := fun e => by have := o6 s e; omega
  refine ⟨o', ⟨⟨m, lo, hi, ga, ba, v1, ov, reps ++ [⟨c, gt, gv, st⟩]⟩, ?_⟩, hM.mono (fun k _ hk => by have := hS k hk; omega), hlo⟩
  unfold IsSrcL
  dsimp only
  refine ⟨((h1.below hb).mod hm hnp).set 0 v1 |>.cast (by simp), ?_, by simp [h3], h4.mod hM (fun k e1 e2 hk => by have := hS _ hk; have := o2 k ⟨e1, e2⟩; omega), h5.mod hM (fun hk => by have := hS _ hk; omega) (fun hk => by have := hS _ hk; omega),
    own_mod h6 hM (fun k hk hk' => by have := hS _ hk'; have := o5 k hk; omega), ?_, ⟨by rw [hlo s hsl]; exact o1, ?_, ?_, ?_, ?_, eV⟩, hsup, ?_⟩
  · have := own_set' hO (p := ⟨s, 0, none⟩) hne v1
    simpa [repC] using this
  · intro i r p' hr hp'
    by_cases hi : i < j
    · rw [List.getElem?_append_left (by omega)] at hr hp'
      refine (h7 i r p' hr hp').step hlo hM (fun k hk => ?_)
      rw [hlo k (hS k hk).2]
      have := hS k hk
      omega
    · have hil : i < (E.parts ++ [p]).length := (List.getElem?_eq_some_iff.1 hp').1
      rw [List.length_append, List.length_singleton] at hil
      obtain rfl : i = j := by omega
      rw [List.getElem?_append_right (by omega), show i - reps.length = 0 by omega] at hr
      rw [List.getElem?_append_right (by omega), show i - E.parts.length = 0 by omega] at hp'
      simp at hr hp'
      subst hr hp'
      refine ⟨hC.mod hM35 (fun hk => by have := hS _ hk; omega), hts, Blk.mod hI hM35 (fun hk => by have h2 := (hS st hk).2; omega), htI, (hG.mod hM35 (fun k hk hk' => by have := hS _ hk'; have := hk.1; omega)).mono (fun k _ hk => eG k hk), eC, eS⟩
  · intro k hk; rw [hlo k (h9 k (by rw [o2 k hk]; decide)).2]; exact o2 k hk
  · rw [hlo _ (h9 _ (by omega)).2]; exact o3
  · rw [hlo _ (h9 _ (by omega)).2]; exact o4
  · intro k hk; rw [hlo k (h9 k (by rw [o5 k hk]; decide)).2]; exact o5 k hk
  · simpa [hj] using ⟨by omega, h10.2⟩
theorem cell_alloc {w : World} {a : Addr} {v : Value} (h : w.cell? a = some v) (o : Obj) : (w.alloc o).cell? a = some v := ((bel_alloc (bel_refl w) o).cell (World.block_lt_of_cell? w a h)).trans h
theorem app_part {P : Program} (t ty e : TypeId) (ht : P.underlying t = some (.slice e)) (hinfo : (P.info? e).map (fun i => (i.zero, i.size, i.bytes)) = some (some (.agg #[.pointer none, .nilIface, .pointer none]), 3, 32)) (base : Nat) (v : Value) (n : Nat) (xs : List Value) (a b c : Value) (ha : a.oneCell' = true) (hb : b.oneCell' = true) (hc : c.oneCell' = true)
    (W : World) (M : Nat) (HO : W.ownsRow base e 3 v n xs) (hr : Rd W (some ⟨M, 0, none⟩) [a, b, c]) (hn : n ≤ 1000) (hB : base ≤ W.heap.size) :
    ∃ v' w', (Builtin.append_ #[t, t] ty #[v, .slice (some ⟨M, 0, none⟩) 1 1]).run P W = .ok v' w' ∧ Hid (w'.ownsRow base e 3 v' (n + 1) (xs ++ [a, b, c]) ∧ Mod (fun k => v.ownBlock = some k) W w' ∧ (v'.ownBlock = v.ownBlock ∨ ∃ b, v'.ownBlock = some b ∧ W.heap.size ≤ b)) := by
  obtain ⟨v', w', h1, h2, h3, h4⟩ := run_app (P := P) W base t ty e (.agg #[.pointer none, .nilIface, .pointer none]) 3 32 ht hinfo rfl (by decide) v n xs HO (some ⟨M, 0, none⟩) 1 1 [a, b, c] rfl hr (by intro u hu; simp at hu; rcases hu with rfl | rfl | rfl; exact ha; exact hb; exact hc) (by unfold maxLen; omega) (by omega) hB
  refine ⟨v', w', h1, h2, grown_mod h3, ?_⟩
  rcases h4 with h | h
  · exact .inl h
  · exact .inr ⟨_, h, Nat.le_refl _⟩
/-- each settled, so many of them -/
def setN (E : ESt) : Nat → ESt
  | 0 => E
  | k + 1 => match (setN E k).parts[k]? with
    | some p => settleE (setN E k) k p
    | none => setN E k
theorem setN_out (E : ESt) : ∀ k, (setN E k).out.length ≤ E.out.length + k
  | 0 => Nat.le_refl _
  | k + 1 => by
    have ih := setN_out E k
    unfold setN
    split
    · unfold settleE
      dsimp only
      rw [len_if]
      split <;> omega
    · omega
theorem setN_len (E : ESt) : ∀ k, (setN E k).parts.length = E.parts.length
  | 0 => rfl
  | k + 1 => by
    have ih := setN_len E k
    unfold setN
    split
    · unfold settleE; dsimp only; rw [List.length_set]; exact ih
    · exact ih
theorem firstErr_zero : ∀ {l : List Rl}, firstErr l = 0 → ∀ (k : Nat) (r : Rl), l[k]? = some r → rlC r = 0
  | [], _, k, r, h => by simp at h
  | x :: l, h0, k, r, h => by
    unfold firstErr at h0
    by_cases hx : rlC x = 0
    · rw [if_pos hx] at h0
      cases k with
      | zero => simp at h; subst h; exact hx
      | succ k => exact firstErr_zero h0 k r (by simpa using h)
    · rw [if_neg hx] at h0; exact absurd h0 hx
theorem cfgC_at {l : List Rl} {t d : Int} (h : cfgC l t d = 0) : ∀ (k : Nat) (r : Rl), l[k]? = some r → rlC r = 0 := by
  unfold cfgC at h
  split at h
  · exact absurd h (by decide)
  · split at h
    · exact absurd h (by decide)
    · exact firstErr_zero h
/-- how a source begins -/
def beginE (rl : List Rl) (lg : List ByteArray) (t d : Int) (n : Nat) : ESt :=
  { advE (setN (newE (parts0 rl lg t) d n) n) with begun := ((advE (setN (newE (parts0 rl lg t) d n) n)).out.length : Int) }
/-- the cells that a source has of its own -/
theorem src_own {w : World} {B s : Nat} {o : Nat → Nat} {E : ESt} (h : IsSrc w B s o E) : (∃ A c, w.cell? ⟨s, 0, none⟩ = some (.slice A E.parts.length c)) ∧ w.cell? ⟨s, 1, none⟩ = some (.int .i64 E.clk) ∧ (∃ A c, w.cell? ⟨s, 4, none⟩ = some (.slice A E.out.length c) ∧ Rd w A (E.out.map evV)) ∧ w.cell? ⟨s, 5, none⟩ = some (.int .i64 E.begun) ∧ w.frozen? ⟨s, 5, none⟩ = false ∧ w.shape? s = some (86, 6) ∧ (∀ k, o k ≠ 0 → B ≤ k ∧ k < w.heap.size) ∧ o s = 1 := by
  obtain ⟨L, h1, h2, h3, h4, h5, h6, h7, h8, h9, h10⟩ := h
  obtain ⟨A, c, e, -, -, -⟩ := own_rd h2
  obtain ⟨A2, c2, e2, -, -, hr2⟩ := own_rd h6
  rw [e, e2] at h1
  exact ⟨⟨A, c, by simpa using h1.cell 0⟩, by simpa using h1.cell 1, ⟨A2, c2, by simpa using h1.cell 4, hr2⟩, by simpa using h1.cell 5, h1.frozen 5, by simpa using h1.shape, h9, h8.1⟩
theorem src_begun {w : World} {B s : Nat} {o : Nat → Nat} {E : ESt} (h : IsSrc w B s o E) (b : Int) : IsSrc (w.setCell ⟨s, 5, none⟩ (.int .i64 b)) B s o { E with begun := b } := by
  obtain ⟨⟨m, lo, hi, ga, ba, pv, ov, reps⟩, h⟩ := h
  unfold IsSrcL at h
  dsimp only at h
  obtain ⟨h1, h2, h3, h4, h5, h6, h7, ⟨o1, o2, o3, o4, o5, o6⟩, h9, h10⟩ := h
  have hm : Mod (fun k => k = s) w (w.setCell ⟨s, 5, none⟩ (.int .i64 b)) := (Mod.refl (fun k => k = s) w).setCell (p := ⟨s, 5, none⟩) (fun _ => rfl) _
  refine ⟨⟨m, lo, hi, ga, ba, pv, ov, reps⟩, ?_⟩
  unfold IsSrcL
  dsimp only
  refine ⟨(h1.set 5 _).cast (by simp), own_mod h2 hm (fun k hk e => by have := o6 k hk; subst e; omega), h3, h4.mod hm (fun k e1 e2 e => by have := o2 k ⟨e1, e2⟩; subst e; omega), h5.mod hm (fun e => by subst e; omega) (fun e => by subst e; omega), own_mod h6 hm (fun k hk e => by have := o5 k hk; subst e; omega), fun i r p hr hp => (h7 i r p hr hp).mod hm (fun k hk e => by subst e; omega), ⟨o1, o2, o3, o4, o5, o6⟩, fun k hk => by simpa using h9 k hk, h10⟩
/-- on its way: so many partitions of these -/
def NewJ (w wx : World) (s k0 : Nat) (A : Option Addr) (cp n : Nat) (t d : Int) (ps : List PSt) : Prop :=
  ∃ o, IsSrc wx w.heap.size s o (newE ps d n) ∧ Blk wx k0 27 #[.slice A n cp, .int .i64 t, .int .i64 d] ∧ o k0 = 0 ∧ Below w.heap.size w wx
theorem new_begin {w W : World} {lo hi m ga ba k0 n : Nat} {d t : Int} {A : Option Addr} {cp : Nat} (hB : Below w.heap.size w W) (hM : IsMerge W lo hi m (List.replicate n NEV) (List.replicate n 0) NEV) (hA : AlignB W ga ba d NEV (List.replicate n NEV)) (hK : Blk W k0 27 #[.slice A n cp, .int .i64 t, .int .i64 d])
    (h1 : w.heap.size ≤ lo ∧ hi ≤ W.heap.size ∧ w.heap.size ≤ ga ∧ w.heap.size ≤ ba) (h2 : ¬ RngH lo hi ga) (h3 : ¬ RngH lo hi ba) (h4 : k0 < lo ∧ k0 < ga ∧ k0 < ba) (hn : n < 1000) :
    NewJ w (W.alloc (.cells #[.slice none 0 0, .int .i64 0, .pointer (some ⟨m, 0, none⟩), .pointer (some ⟨ga, 0, none⟩), .slice none 0 0, .int .i64 0] 86)) W.heap.size k0 A cp n t d [] := by
  have hga := hA.1.lt
  have hba : ba < W.heap.size := Blk.lt hA.2.1
  have hk0 := hK.lt
  have hne := hA.ne
  obtain ⟨o, ho⟩ : ∃ o, o = ovr (ovr (ovr (ovr (fun _ => 0) (RngH lo hi) 2) (fun k => k = ga) 3) (fun k => k = ba) 4) (fun k => k = W.heap.size) 1 := ⟨_, rfl⟩
  have eS : o W.heap.size = 1 := by rw [ho]; exact ovr_in (S := fun k => k = W.heap.size) rfl
  have eB : o ba = 4 := by rw [ho, ovr_out (S := fun k => k = W.heap.size) (by omega)]; exact ovr_in (S := fun k => k = ba) rfl
  have eG : o ga = 3 := by rw [ho, ovr_out (S := fun k => k = W.heap.size) (by omega), ovr_out (S := fun k => k = ba) hne]; exact ovr_in (S := fun k => k = ga) rfl
  have eM : ∀ k, RngH lo hi k → o k = 2 := by
    intro k hk
    have := hk.2
    rw [ho, ovr_out (S := fun k => k = W.heap.size) (by omega), ovr_out (S := fun k => k = ba) (fun e => h3 (e ▸ hk)), ovr_out (S := fun k => k = ga) (fun e => h2 (e ▸ hk))]
    exact ovr_in hk
  have eO : ∀ k, k ≠ W.heap.size → k ≠ ba → k ≠ ga → ¬ RngH lo hi k → o k = 0 := by
    intro k a1 a2 a3 a4
    rw [ho, ovr_out (S := fun k => k = W.heap.size) a1, ovr_out (S := fun k => k = ba) a2, ovr_out (S := fun k => k = ga) a3, ovr_out a4]
  have hb := bel_alloc (bel_refl W) (.cells #[.slice none 0 0, .int .i64 0, .pointer (some ⟨m, 0, none⟩), .pointer (some ⟨ga, 0, none⟩), .slice none 0 0, .int .i64 0] 86)
  refine ⟨o, ⟨⟨m, lo, hi, ga, ba, .slice none 0 0, .slice none 0 0, []⟩, ?_⟩, hK.below hb, eO k0 (by omega) (by omega) (by omega) (fun h => by have := h.1; omega), bel_alloc hB _⟩
  unfold IsSrcL newE
  dsimp only
  refine ⟨Blk.new_ _ _ _, own_nil' _ _ _ _, rfl, hM.mod (Mod.of_below (S := fun _ => False) hb) (fun _ _ _ h => h), hA.below hb, own_nil' _ _ _ _, fun i r p hr => by simp at hr, ⟨eS, eM, eG, eB, fun k hk => by simp [Value.ownBlock] at hk, fun k hk => by simp [Value.ownBlock] at hk⟩, ?_, by simp, by simp; omega, by unfold I64; decide⟩
  intro k hk
  have hsz := hB.size
  simp only [World.alloc, Array.size_push]
  by_cases a1 : k = W.heap.size
  · omega
  by_cases a2 : k = ba
  · omega
  by_cases a3 : k = ga
  · omega
  by_cases a4 : RngH lo hi k
  · have := a4.1; have := a4.2; omega
  exact absurd (eO k a1 a2 a3 a4) hk
set_option maxRecDepth 100000 in
set_option maxHeartbeats 8000000 in
theorem source_New (A AL : Option Addr) (cp cl : Nat) (t d : Int) (n : Nat) (rl : List Rl) (lg : List ByteArray) (w : World) (hr : RdS w A 5 fRl rl) (hlog : Rd w AL (lg.map .string)) (hc : cfgC rl t d = 0) (hrl : rl.length = n) (hlg : lg.length = n) (hI : ∀ r ∈ rl, I64 r.2.1) (htI : I64 t) (hdI : I64 d)
    (hn : n < 1000) (hz : ∀ x ∈ lg, x.size ≤ 200000) :
    Calls Tryz.prog 18 #[.agg #[.slice A n cp, .int .i64 t, .int .i64 d], .slice AL n cl] w fun e w' => ∃ s o, e = .returned (.tuple #[.pointer (some ⟨s, 0, none⟩), .int .i64 0]) ∧ IsSrc w' w.heap.size s o (beginE rl lg t d n) ∧ Below w.heap.size w w' := by
  have hlm : rl.length ≤ maxLen := by unfold maxLen; omega
  have HRL := hid' hrl
  have HLN := hid' hlg
  have HK := hid' (Blk.new_ w 27 #[.slice A n cp, .int .i64 t, .int .i64 d])
  have hba := bel_alloc (bel_refl w) (.cells #[.slice A n cp, .int .i64 t, .int .i64 d] 27)
  have HL0 := hid' hba
  have HR := hid' hr
  have HLG := hid' hlog
  have HCK := hid' (config_Check A cp rl t d _ (hr.below hba) hlm)
  rw [hc, hrl] at HCK
  have hrc : ∀ (k : Nat) (r : Rl), rl[k]? = some r → rlC r = 0 := cfgC_at hc
  clear hr hlog hc hrl hlg hlm
  go_enter Tryz.func18, Tryz.ntmps18
  go_wp2_with fail
  generalize w.alloc (.cells #[.slice A n cp, .int .i64 t, .int .i64 d] 27) = w0 at *
  clear hba
  refine HCK.out.mono ?_
  rintro e w1 ⟨rfl, hB1⟩
  have HK1 := hid' (HK.out.below hB1)
  have HL1 := hid' (bel_then HL0.out hB1)
  have c0 : w1.cell? ⟨w.heap.size, 0, none⟩ = some (.slice A n cp) := by simpa using HK1.out.cell 0
  have c2 : w1.cell? ⟨w.heap.size, 2, none⟩ = some (.int .i64 d) := by simpa using HK1.out.cell 2
  clear hB1
  go_upto_region 6 with (fail)
  go_cut [7] from 24 (fun v7 wx => ∃ s, v7 = .pointer (some ⟨s, 0, none⟩) ∧ NewJ w wx s w.heap.size A cp n t d [])
  case first =>
    have HMN := hid' (fun W => merge_New (n : Int) W (by omega))
    have HAN := hid' (fun W => align_New d (n : Int) W hdI (by omega))
    rw [Int.toNat_natCast] at HMN HAN
    have HCL := hid' (fun W (h : Below w1.heap.size w1 W) => (h.cell (World.block_lt_of_cell? w1 _ c2)).trans c2)
    clear c0
    go_region_held3 (fun w' => w'.cell? ⟨w.heap.size, 2, none⟩ = some (.int .i64 d))
      (first | exact c2 | exact hcell | exact cell_alloc hcell _)
      (first
        | (go_at_call 42; refine (HMN.out _).mono ?_; rintro e wm ⟨m, rfl, hM, hbm⟩; have HBM := hid' hbm; have HM := hid' hM; clear hbm hM; have hcell := HCL.out wm (by first | exact bel_then (by first | exact bel_refl _ | exact bel_drew (bel_refl _) | exact bel_drewN (bel_refl _) _) HBM.out | exact bel_then (bel_then (by first | exact bel_refl _ | exact bel_drew (bel_refl _) | exact bel_drewN (bel_refl _) _) HBA.out) HBM.out))
        | (go_at_call 43; refine (HAN.out _).mono ?_; rintro e wa ⟨ga, ba, rfl, hga, hba, hA, hbn⟩; have HBA := hid' hbn; have HA := hid' hA; clear hbn hA; have hcell := HCL.out wa (by first | exact bel_then (by first | exact bel_refl _ | exact bel_drew (bel_refl _) | exact bel_drewN (bel_refl _) _) HBA.out | exact bel_then (bel_then (by first | exact bel_refl _ | exact bel_drew (bel_refl _) | exact bel_drewN (bel_refl _) _) HBM.out) HBA.out)))
    all_goals
      go_wp2_with fail
      go_meet
      refine ⟨_, rfl, ?_⟩
      have s0 := HL1.out.size
      have s1 := HBM.out.size
      have s2 := HBA.out.size
      have s3 := HK1.out.lt
      have hmr : w1.heap.size ≤ w1.drew.heap.size := Nat.le_refl _
      refine new_begin (bel_then (bel_then (bel_drew HL1.out) HBM.out) HBA.out) (HM.out.mod (Mod.of_below (S := fun _ => False) HBA.out) (fun _ _ _ h => h)) HA.out (((HK1.out.drew).below HBM.out).below HBA.out) ?_ (fun h => by have := h.2; omega) (fun h => by have := h.2; omega) ?_ hn
      · simp at *; omega
      · simp at *; omega
  case rest =>
    obtain ⟨s, rfl, hNJ⟩ := hcut
    have HNJ := hid' hNJ
    clear hNJ c0 c2
    go_wp2_with fail
    go_loopw [8, 9, 10, 11, 35] (fun v8 v9 v10 v11 v35 wr => ∃ k : Nat, k ≤ n ∧ v35 = .int .i64 k ∧ Hid (NewJ w wr s w.heap.size A cp n t d ((parts0 rl lg t).take k))) (fun _ _ _ _ v35 _ => n - (intOf v35).toNat)
    case atStart => exact ⟨0, Nat.zero_le _, rfl, by rw [List.take_zero]; exact HNJ.out⟩
    case round =>
      obtain ⟨k, hk, rfl, HJ⟩ := hrel
      by_cases hlt : k < n
      · have hrl := HRL.out
        have hlg := HLN.out
        obtain ⟨al, x, hAL, hx, hcx⟩ := Rd.at_ HLG.out (show k < lg.length by omega)
        obtain ⟨ar, ra, rb, rc, rd, re, hA, hrx, d0, d1, d2, d3, d4⟩ := HR.out.at5 (show k < rl.length by omega)
        subst hAL
        subst hA
        obtain ⟨o, ⟨L, hS⟩, hKb, ho0, hB⟩ := HJ.out
        have hx2 := hz x (mem_of_get hx)
        have hrc2 := hrc k _ hrx
        have hrI := hI _ (mem_of_get hrx)
        have HPX := hid' (take_snoc' (parts0_at (tmo := t) hrx hx))
        have hpl := parts0_len (tmo := t) (show rl.length = lg.length by omega)
        have HPL := hid' (show ((parts0 rl lg t).take k).length = k by rw [List.length_take]; omega)
        have tow := fun (p : Addr) (v : Value) (h : w.cell? p = some v) => (hB.cell (World.block_lt_of_cell? w p h)).trans h
        replace hcx := tow _ _ hcx
        replace d0 := tow _ _ d0
        replace d1 := tow _ _ d1
        replace d2 := tow _ _ d2
        replace d3 := tow _ _ d3
        replace d4 := tow _ _ d4
        have c0 : wr.cell? ⟨w.heap.size, 0, none⟩ = some (.slice (some ar) n cp) := by simpa using hKb.cell 0
        have HG := hid' (gen_Any ra rb rc rd re wr hrc2 hrI)
        unfold ruleV at HG
        have HS := hid' hS
        have HKb := hid' hKb
        have HB := hid' hB
        clear tow hrl hlg hx hrx hS hKb hB hpl hrc2 hrI
        go_wp2_with (go_at_call 44; refine HG.out.mono ?_; rintro e w3 ⟨gt, gv, rfl, hIG, hB3⟩)
        clear c0 hcx d0 d1 d2 d3 d4
        have HS3 := hid' (HS.out.below hB3)
        have HK3 := hid' (HKb.out.below hB3)
        have c0 : w3.cell? ⟨s, 0, none⟩ = some L.pv := by simpa using HS3.out.1.cell 0
        have c1 : w3.cell? ⟨w.heap.size, 1, none⟩ = some (.int .i64 t) := by simpa using HK3.out.cell 1
        have HCL := hid' (fun W (h : Below w3.heap.size w3 W) => And.intro ((h.cell (World.block_lt_of_cell? w3 _ c0)).trans c0) ((h.cell (World.block_lt_of_cell? w3 _ c1)).trans c1))
        have HCN := hid' (fun W => cursor_New x W hx2)
        have HIN := hid' (fun W (h : Below w3.heap.size w3 W) => idle_New s 1 0 t W (by simpa [newE] using (HS3.out.1.below h).cell 1) (by unfold I64; decide) htI)
        have HOW := hid' (show w3.ownsRow w.heap.size 97 3 L.pv k (L.reps.flatMap repC) from by have h := HS3.out.2.1; simp only [newE] at h; rwa [HPL.out] at h)
        have hk1000 : k ≤ 1000 := by omega
        have HBW := hid' (fun W (h : Below w3.heap.size w3 W) => Nat.le_trans HB.out.size (Nat.le_trans hB3.size h.size))
        have HIG := hid' hIG
        have HB3 := hid' hB3
        clear hIG hB3
        have hs3 := HS3.out.1.lt
        have HF := hid' (fun W (h : Below w3.heap.size w3 W) => show s ≠ W.heap.size by have := h.size; omega)
        have HM5 := hid' (fun (W w5 : World) (h : Below w3.heap.size w3 W) (hm : Mod (fun k => L.pv.ownBlock = some k) W w5) => (HS3.out.1.below h).mod hm (own_ne' HOW.out HS3.out.1 (by decide)))
        go_region_law (first
          | (refine step_append_ex2 rfl (.tmp 53) (.tmp 64) 82 82 rfl L.pv (.slice (some ⟨wi.heap.size, 0, none⟩) 1 1) rfl rfl _ (app_part 82 _ 97 Tryz.underlying82 (by kernel_rfl) w.heap.size L.pv k (L.reps.flatMap repC) (.pointer (some ⟨c, 0, none⟩)) (.iface gt gv) (.pointer (some ⟨st, 0, none⟩)) rfl rfl rfl _ wi.heap.size (own_below HOW.out (by first | exact bel_alloc HBI.out _ | exact bel_drew (bel_alloc HBI.out _) | exact bel_drewN (bel_alloc HBI.out _) _)) (by exact (Blk.new_ wi 97 #[.pointer (some ⟨c, 0, none⟩), .iface gt gv, .pointer (some ⟨st, 0, none⟩)]).rd rfl) hk1000 (HBW.out _ (by first | exact bel_alloc HBI.out _ | exact bel_drew (bel_alloc HBI.out _) | exact bel_drewN (bel_alloc HBI.out _) _))) ?_; intro v5 w5 hw5
             obtain ⟨A5, q5, rfl, -, -, -⟩ := own_rd hw5.out.1
             have HS5 := hid' (HM5.out _ w5 (by first | exact bel_alloc HBI.out _ | exact bel_drew (bel_alloc HBI.out _) | exact bel_drewN (bel_alloc HBI.out _) _) hw5.out.2.1); have c5 := HS5.out.cell 0; have f5 := HS5.out.frozen 0; have s5 := HS5.out.shape)
          | (go_simp; go_at_call 45; refine (HCN.out _).mono ?_; rintro e wx ⟨c, rfl, hcN, hcl, hC, hbx⟩; have HBC := hid' (show Below w3.heap.size w3 wx from bel_then (by first | exact bel_refl _ | exact bel_drew (bel_refl _) | exact bel_drewN (bel_refl _) _) hbx); have HC := hid' hC; clear hC hbx c0 c1; have c0 := (HCL.out wx HBC.out).1; have c1 := (HCL.out wx HBC.out).2)
          | (go_simp; go_at_call 46; refine (HIN.out _ (by first | exact HBC.out | exact bel_drew HBC.out | exact bel_drewN HBC.out _)).mono ?_; rintro e wi ⟨st, rfl, hst, hI5, hbx⟩; have HCI := hid' (CurI.below HC.out hbx); have HBI := hid' (show Below w3.heap.size w3 wi from bel_then (by first | exact HBC.out | exact bel_drew HBC.out | exact bel_drewN HBC.out _) hbx); have HI5 := hid' hI5; clear hI5 hbx c0 c1; have c0 := (HCL.out wi HBI.out).1; have c0a := fun o => cell_alloc c0 o))
        all_goals
          clear c0 c0a c5 f5 s5
          go_wp2
          go_roundw
          case rel =>
            obtain ⟨o', g1, g2, g3⟩ := new_part HS.out (part0 t ((ra, rb, rc, rd, re), x)) c st gt gv _ (N1 := wr.heap.size) (N2 := w3.heap.size) (wi.alloc (.cells #[.pointer (some ⟨c, 0, none⟩), .iface gt gv, .pointer (some ⟨st, 0, none⟩)] 97)) (bel_then HB3.out (bel_alloc HBI.out _)) (HCI.out.below (bel_alloc (bel_refl _) _)) hx2 (Blk.below HI5.out (bel_alloc (bel_refl _) _)) htI
              (HIG.out.below (bel_alloc HBI.out _)) (Nat.le_refl _) hcN (Nat.le_trans HBC.out.size hst) HB3.out.size (by rw [show (newE (List.take k (parts0 rl lg t)) d n).parts.length = k from HPL.out]; exact hw5.out.1) hw5.out.2.1 hw5.out.2.2 (by rw [show (newE (List.take k (parts0 rl lg t)) d n).parts.length = k from HPL.out]; omega)
            refine ⟨k + 1, by omega, by go_num, ?_⟩
            unfold Hid NewJ
            rw [HPX.out]
            have hkl := HKb.out.lt
            exact ⟨o', g1, HKb.out.mod g2 (fun h => h ho0), (g3 _ hkl).trans ho0, bel_mod HB.out g2 (fun i hi h => by have := HS.out.2.2.2.2.2.2.2.2.1 i h; omega)⟩
          case measure => (simp only [intOf]; omega)
      · obtain rfl : k = n := by omega
        obtain ⟨o, hS, hKb, ho0, hB⟩ := HJ.out
        have hpl : (parts0 rl lg t).length = k := by rw [parts0_len (by rw [HRL.out, HLN.out]), HLN.out]
        rw [List.take_of_length_le (by omega)] at hS
        obtain ⟨E0, hE0⟩ : ∃ E0, E0 = newE (parts0 rl lg t) d k := ⟨_, rfl⟩
        have hEl : E0.parts.length = k := by rw [hE0]; exact hpl
        have hEo : E0.out.length = 0 := by rw [hE0]; rfl
        have HF := hid' (show beginE rl lg t d k = { advE (setN E0 k) with begun := ((advE (setN E0 k)).out.length : Int) } by rw [hE0]; rfl)
        rw [← hE0] at hS
        obtain ⟨⟨A9, c9, d0⟩, -⟩ := src_own hS
        rw [hEl] at d0
        have HSO := hid' hS
        have HB := hid' hB
        have HEA := hid' (source_each k s (by omega) (fun i W => ∃ o, IsSrc W w.heap.size s o (setN E0 i) ∧ Below w.heap.size w W) (by
          rintro i W hi ⟨o1, g1, g2⟩
          have hlt2 : i < (setN E0 i).parts.length := by rw [setN_len, hEl]; exact hi
          have hp := List.getElem?_eq_getElem hlt2
          refine (src_settle g1 i _ hp (by have := setN_out E0 i; omega)).mono ?_
          rintro e W' ⟨rfl, o2, k1, k2, k3⟩
          refine ⟨rfl, o2, ?_, bel_mod g2 k2 (fun j hj h => by have := (src_own g1).2.2.2.2.2.2.1 j h; omega)⟩
          have : setN E0 (i + 1) = settleE (setN E0 i) i (setN E0 i).parts[i] := by
            show (match (setN E0 i).parts[i]? with | some p => settleE (setN E0 i) i p | none => setN E0 i) = _
            rw [hp]
          rw [this]; exact k1) wr ⟨o, hS, hB⟩)
        clear hS hB hE0 hKb hpl ho0
        go_wp2_with (go_at_call 47; refine HEA.out.mono ?_; rintro e w4 ⟨rfl, o4, hS4, hB4⟩)
        have HA := hid' (src_advance hS4 (by have := setN_out E0 k; omega))
        have HB4 := hid' hB4
        have HS4 := hid' hS4
        clear hS4 hB4 d0
        go_wp2_with fail
        refine HA.out.mono ?_
        rintro e w5 ⟨rfl, o5, hS5, hm5, he5⟩
        have HB5 := hid' (bel_mod HB4.out hm5 (fun j hj h => by have := (src_own HS4.out).2.2.2.2.2.2.1 j h; omega))
        obtain ⟨-, -, ⟨A8, c8, d4, -⟩, d5, f5, s5, hsup, ho1⟩ := src_own hS5
        have HS5 := hid' (src_begun hS5 ((advE (setN E0 k)).out.length : Int))
        have hsB := (hsup s (by rw [ho1]; decide)).1
        generalize (advE (setN E0 k)).out.length = nl at *
        clear hS5 hm5 he5 hsup
        go_wp2
        go_ret2
        exact ⟨s, o5, rfl, by rw [HF.out]; exact HS5.out, bel_set HB5.out hsB _⟩
end Go.Proofs.YtockkjhciojgbaaGreatDoor
