
/- What the listed variables of Go's number texts hold. No condition. -/
import Derived.Test.YtockkjhciojgbaaGreatDoorRows
import Derived.Test.YtockkjhciojgbaaGreatDoorPackA
import Derived.Lib.LaidU8
import Derived.Lib.ItoaNum
namespace Go.Proofs.YtockkjhciojgbaaGreatDoor
set_option maxRecDepth 100000
set_option linter.unusedSimpArgs false
open Go.RowKit
set_option linter.unusedVariables false
set_option linter.unusedSimpArgs false

theorem tabIs_reads {P : Program} {w : World} {name : String} {k : IntKind} {zs : List Int} {g : Nat} {t e : TypeId} {n : Nat}
    (hg : P.globalNamed name = some g) (hty : (P.globals[g]?).map (·.type) = some t) (ht : P.underlying t = some (.array n e)) (he : P.underlying e = some (.int k)) (hce : P.cellsOf e = 1) (hct : P.cellsOf t = n)
    (h : Lib.VarReads P w name (Lib.tabData k zs)) : Lib.TabIs P w name k zs := by
  obtain ⟨g', t', cs, fuel, p, hg', ht', hvar, hd⟩ := h
  obtain rfl := Option.some.inj (hg.symm.trans hg')
  obtain rfl := Option.some.inj (hty.symm.trans ht')
  unfold Lib.TabIs
  rw [hvar, ← Lib.cells_of_tab ht he hce hct hd]
theorem iface_reads {P : Program} {w : World} {name : String} {g : Nat} {t : TypeId} {ms : Array (String × TypeId)} {dn : String} {d : DataW Unit}
    (hg : P.globalNamed name = some g) (hty : (P.globals[g]?).map (·.type) = some t) (ht : P.underlying t = some (.interface ms))
    (h : Lib.VarReads P w name (.iface dn d)) : ∃ u v, w.var? P name = some #[.iface u v] := by
  obtain ⟨g', t', cs, fuel, p, hg', ht', hvar, hd⟩ := h
  obtain rfl := Option.some.inj (hg.symm.trans hg')
  obtain rfl := Option.some.inj (hty.symm.trans ht')
  cases fuel with
  | zero => simp [DataW.trod] at hd
  | succ fuel =>
    have hc : ∃ u v, cs.toList = [.iface u v] := by
      simp only [DataW.trod, ht] at hd
      split at hd
      all_goals first
        | (rename_i h1; exact ⟨_, _, h1⟩)
        | (rename_i h1 _; exact ⟨_, _, h1⟩)
        | (exfalso; simp at hd; done)
        | (rename_i h1 h2; simp at h1; done)
        | (rename_i u v _ _ _; exact ⟨_, _, by assumption⟩)
        | (refine ⟨_, _, ?_⟩; assumption)
    obtain ⟨u, v, hc⟩ := hc
    refine ⟨u, v, ?_⟩
    rw [hvar]
    congr 1
    exact Array.ext' hc
theorem var_below {P : Program} {w w' : World} {name : String} (hb : Below w.heap.size w w') {cs : Array Value} (h : w.var? P name = some cs) : w'.var? P name = some cs := by
  unfold World.var? at h ⊢
  obtain ⟨g, hg, h2⟩ := Option.bind_eq_some_iff.1 h
  rw [hg]
  cases ho : w.heap[g]? with
  | none => rw [ho] at h2; cases h2
  | some o =>
    have h3 := hb.block g (Array.getElem?_eq_some_iff.1 ho).1
    show (match w'.heap[g]? with | some (.cells cs _ _) => some cs | _ => none) = _
    rw [h3]
    exact h2
/-- the powers of ten -/
def PowT (w : World) : Prop := Lib.TabIs Tryz.prog w "internal/strconv.uint64pow10" .u64 Lib.pow10Tab
theorem PowT.below {w w' : World} (h : PowT w) (hb : Below w.heap.size w w') : PowT w' := var_below hb h
theorem tab_pow {w : World} (h : Lib.VarReads Tryz.prog w "internal/strconv.uint64pow10" Rows.laid_internal_strconv_uint64pow10) : PowT w :=
  tabIs_reads (g := 3) (e := 198) (t := 233) (n := 20) (k := .u64) (by kernel_rfl) (by kernel_rfl) (by kernel_rfl) (by kernel_rfl) (by kernel_rfl) (by kernel_rfl)
    (by rw [show (Rows.laid_internal_strconv_uint64pow10 : DataW Unit) = Lib.tabData .u64 Lib.pow10Tab from by kernel_rfl] at h; exact h)
/-- the errors of number texts -/
def ErV (w : World) : Prop := (∃ t p, w.var? Tryz.prog "strconv.ErrSyntax" = some #[.iface t p]) ∧ ∃ t p, w.var? Tryz.prog "strconv.ErrRange" = some #[.iface t p]
theorem ErV.below {w w' : World} (h : ErV w) (hb : Below w.heap.size w w') : ErV w' := by
  obtain ⟨⟨t, p, h1⟩, t', p', h2⟩ := h
  exact ⟨⟨t, p, var_below hb h1⟩, t', p', var_below hb h2⟩
theorem tab_erv {w : World} (h1 : Lib.VarReads Tryz.prog w "strconv.ErrSyntax" Rows.laid_strconv_ErrSyntax) (h2 : Lib.VarReads Tryz.prog w "strconv.ErrRange" Rows.laid_strconv_ErrRange) : ErV w := by
  have ht : ∃ ms, Tryz.prog.underlying 66 = some (.interface ms) := by
    have h : (match Tryz.prog.underlying 66 with | some (.interface _) => true | _ => false) = true := by kernel_rfl
    split at h
    · rename_i ms hm; exact ⟨ms, hm⟩
    · cases h
  obtain ⟨ms, ht⟩ := ht
  exact ⟨iface_reads (g := 6) (t := 66) (by kernel_rfl) (by kernel_rfl) ht h1, iface_reads (g := 7) (t := 66) (by kernel_rfl) (by kernel_rfl) ht h2⟩
def dB64 : List Int := [0, 1, 56, 2, 57, 49, 28, 3, 61, 58, 42, 50, 38, 29, 17, 4, 62, 47, 59, 36, 45, 43, 51, 22, 53, 39, 33, 30, 24, 18, 12, 5, 63, 55, 48, 27, 60, 41, 37, 16, 46, 35, 44, 21, 52, 32, 23, 11, 54, 26, 40, 15, 34, 20, 31, 10, 25, 14, 19, 9, 13, 8, 7, 6]
theorem tab_dB {w : World} (h : Lib.VarReads Tryz.prog w "math/bits.deBruijn64tab" Rows.laid_math_bits_deBruijn64tab) : Lib.TabIs Tryz.prog w "math/bits.deBruijn64tab" .u8 dB64 :=
  tabIs_reads (g := 5) (e := 5) (t := 249) (n := 64) (k := .u8) (by kernel_rfl) (by kernel_rfl) (by kernel_rfl) (by kernel_rfl) (by kernel_rfl) (by kernel_rfl)
    (by rw [show (Rows.laid_math_bits_deBruijn64tab : DataW Unit) = Lib.tabData .u8 dB64 from by kernel_rfl] at h; exact h)
end Go.Proofs.YtockkjhciojgbaaGreatDoor
