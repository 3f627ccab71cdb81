
/- A log's records told as events: the plain law; and what a cursor leaves of a builder of texts. No condition. -/
import Derived.Test.YtioaijjmialdoaaGreatDoorEventT
import Derived.Test.YtioaijjmialdoaaGreatDoorEventR
import Derived.Test.YtioaijjmialdoaaGreatDoorCursorB
import Derived.Test.YtioaijjmialdoaaGreatDoorRefLog
namespace Go.Proofs.YtioaijjmialdoaaGreatDoor
set_option maxRecDepth 100000
set_option linter.unusedSimpArgs false
open Go.RowKit
set_option linter.unusedVariables false
set_option linter.unusedSimpArgs false

theorem lineE_plain (e : Ev) : ∀ c ∈ lineE e, 32 ≤ c.toNat := by
  have hi : ∀ (n : Int), ∀ c ∈ Lib.itoa n, 32 ≤ c.toNat := fun n c hc => by have := itoa_mem n c hc; omega
  cases e with
  | elem p k t x b =>
    have h : lineE (.elem p k t x b) = (if b = true then wLate else wElement) ++ wordsL [p, k, t] ++ 32 :: quoteP x := rfl
    rw [h, words_cons, words_cons, words_cons, words_nil]
    simp only [List.forall_mem_append, List.forall_mem_cons]
    exact ⟨⟨by cases b <;> decide, by decide, hi p, by decide, hi k, by decide, hi t, by simp⟩, by decide, fun c hc => (quoteP_plain x c hc).1⟩
  | mark a =>
    have h : lineE (.mark a) = wMark ++ wordsL [a] := rfl
    rw [h, words_cons, words_nil]
    simp only [List.forall_mem_append, List.forall_mem_cons]
    exact ⟨by decide, by decide, hi a, by simp⟩
  | fault p e =>
    have h : lineE (.fault p e) = wFault ++ wordsL [p, e] := rfl
    rw [h, words_cons, words_cons, words_nil]
    simp only [List.forall_mem_append, List.forall_mem_cons]
    exact ⟨by decide, by decide, hi p, by decide, hi e, by simp⟩
theorem spl_text (l : List Ev) : spl 10 (textE l) = l.map lineE ++ [[]] := by
  induction l with
  | nil => rfl
  | cons e l ih =>
    have h : textE (e :: l) = lineE e ++ 10 :: textE l := by show lineE e ++ [10] ++ textE l = _; simp
    rw [h, spl_cut _ (fun hm => by have := lineE_plain e 10 hm; exact absurd this (by decide)), ih]
    rfl
theorem textE_app (a b : List Ev) : textE (a ++ b) = textE a ++ textE b := by unfold textE; rw [List.flatMap_append]
def tEl (p : Int) (r : Rec) : Ev := .elem p r.1 r.2.1 r.2.2 false
def toldE (p : Int) (l : List Rec) : List Ev := l.map (tEl p)
def toldF (p e : Int) : List Ev := if e = 0 then [] else [.fault p e]
theorem toldE_snoc (p : Int) (l : List Rec) (r : Rec) : toldE p (l ++ [r]) = toldE p l ++ [tEl p r] := by unfold toldE; rw [List.map_append]; rfl
theorem told_el (p e : Int) (l : List Rec) : elL (toldE p l ++ toldF p e) = l.map fun r => (p, r.1, r.2.1, r.2.2, false) := by
  unfold elL
  rw [List.flatMap_append]
  have h1 : (toldE p l).flatMap elOf = l.map fun r => (p, r.1, r.2.1, r.2.2, false) := by
    unfold toldE
    induction l with
    | nil => rfl
    | cons r l ih => rw [List.map_cons, List.flatMap_cons, ih, List.map_cons]; rfl
  have h2 : (toldF p e).flatMap elOf = [] := by unfold toldF; split <;> rfl
  rw [h1, h2, List.append_nil]
theorem told_ft (p e : Int) (l : List Rec) : ftL (toldE p l ++ toldF p e) = if e = 0 then [] else [(p, e)] := by
  unfold ftL
  rw [List.flatMap_append]
  have h1 : (toldE p l).flatMap ftOf = [] := by
    unfold toldE
    induction l with
    | nil => rfl
    | cons r l ih => rw [List.map_cons, List.flatMap_cons, ih]; rfl
  rw [h1, List.nil_append]
  unfold toldF
  split <;> rfl
theorem told_part (p e : Int) (l : List Rec) : ∀ x ∈ toldE p l ++ toldF p e, evPart x = p := by
  intro x hx
  rcases List.mem_append.1 hx with h | h
  · unfold toldE at h
    obtain ⟨r, _, rfl⟩ := List.mem_map.1 h
    rfl
  · unfold toldF at h
    split at h
    · cases h
    · rw [List.mem_singleton] at h; subst h; rfl
theorem cLook_err (s : ByteArray) (v : Nat) : (cLook s v).2.2 = pErr s v := by
  unfold cLook pErr
  split <;> rfl
theorem cSt_live {s : ByteArray} {v : Nat} (hv : v ≤ s.size) : cSt s v = 0 ↔ pLive s v := by
  have h1 := cLook_err s v
  unfold cSt pLive
  rw [h1]
  unfold pErr
  by_cases h : v < s.size
  · rw [if_pos h]
    by_cases h2 : (fGet (s.extract v s.size)).2.2 = 0
    · simp [h2, h]; omega
    · simp [h2]
  · rw [if_neg h, if_neg (by simp), if_pos (by omega)]
    exact ⟨fun h => (by cases h), fun hh => absurd hh.1 h⟩
theorem cSt_two {s : ByteArray} {v : Nat} : cSt s v = 2 ↔ pErr s v ≠ 0 := by
  unfold cSt
  rw [cLook_err]
  split
  · rename_i h; exact ⟨fun _ => h, fun _ => rfl⟩
  · rename_i h
    split
    · exact ⟨fun h => (by cases h), fun hh => absurd hh h⟩
    · exact ⟨fun h => (by cases h), fun hh => absurd hh h⟩
theorem told_next {s : ByteArray} {j : Nat} (hs : s.size ≤ 500) (hlen : (pSt s j).1.length = j) (h : pLive s (pSt s j).2) :
    ∃ r n, cLook s (pSt s j).2 = (r, ((n : Nat) : Int), 0) ∧ (pSt s j).2 + n ≤ s.size ∧ 0 < n ∧ pSt s (j + 1) = ((pSt s j).1 ++ [r], (pSt s j).2 + n) ∧ I64 r.1 ∧ I64 r.2.1 ∧ r.2.2.size ≤ 1000 := by
  obtain ⟨r, n, h1, h0, h2, h3, h4, h5, h6⟩ := pStep_live h (by omega)
  refine ⟨r, n, ?_, h2, h0, h3, ?_, h6, ?_⟩
  · unfold cLook; rw [if_pos h.1]; exact h1
  · unfold fCheck at h5
    split at h5
    · rename_i hk
      unfold kindOk at hk
      have hk2 : r.1 = 1 ∨ r.1 = 2 := by simpa using hk
      unfold I64
      omega
    · cases h5
  · have hsz : (fFull r).size = n := by rw [h4, ByteArray.size_extract]; omega
    have hf : (fFull r).size = (vput (recBody r).size).length + (recBody r).size + 4 := by
      unfold fFull; rw [size_bl, bl_app, List.length_append, bl_str, ← size_bl, cseal_size]; omega
    have hb := recBody_size r
    omega
theorem pSt_lt {s : ByteArray} (hs : s.size ≤ 1000000) : ∀ j, (pSt s j).1.length ≤ (pSt s j).2 := by
  intro j
  induction j with
  | zero => exact Nat.zero_le _
  | succ j ih =>
    show (pStep s (pSt s j)).1.length ≤ (pStep s (pSt s j)).2
    by_cases h : pLive s (pSt s j).2
    · obtain ⟨r, n, _, h0, _, h2, _⟩ := pStep_live h hs
      rw [h2]; simp only [List.length_append, List.length_singleton]; omega
    · rw [pStep_stay h]; exact ih
theorem told_one {s : ByteArray} {k j : Nat} (h : ¬ pLive s (pSt s k).2) (h' : ¬ pLive s (pSt s j).2) (hk : (pSt s k).1.length = k) (hj : (pSt s j).1.length = j) : k = j := by
  have := pSt_one h h'
  rw [← hk, ← hj, this]
theorem vgf_two (s : List UInt8) : ∀ i n, (vgetFrom i n s).2.2 ≤ 2 := by
  induction s with
  | nil => intro i n; show 1 ≤ 2; omega
  | cons c rest ih =>
    intro i n
    rw [vgetFrom]
    split
    · show 2 ≤ 2; omega
    · split
      · split
        · show 2 ≤ 2; omega
        · show 0 ≤ 2; omega
      · exact ih _ _
theorem fOpen_I (b : ByteArray) : 0 ≤ (fOpen b).2 ∧ (fOpen b).2 ≤ 5 := by
  unfold fOpen
  split
  · split
    · exact ⟨by show (0 : Int) ≤ 0; omega, by show (0 : Int) ≤ 5; omega⟩
    · have := vgf_two ((bl b).drop 1) 0 0
      have h2 : (vget ((bl b).drop 1)).2.2 ≤ 2 := this
      show 0 ≤ (((vget ((bl b).drop 1)).2.2 : Nat) : Int) ∧ (((vget ((bl b).drop 1)).2.2 : Nat) : Int) ≤ 5
      omega
  · exact ⟨by show (0 : Int) ≤ 3; omega, by show (3 : Int) ≤ 5; omega⟩
theorem fGet_I (s : ByteArray) : 0 ≤ (fGet s).2.2 ∧ (fGet s).2.2 ≤ 5 := by
  unfold fGet
  split
  · split
    · exact ⟨by show (0 : Int) ≤ 4; omega, by show (4 : Int) ≤ 5; omega⟩
    · split
      · exact ⟨by show (0 : Int) ≤ 1; omega, by show (1 : Int) ≤ 5; omega⟩
      · split
        · exact ⟨by show (0 : Int) ≤ 5; omega, by show (5 : Int) ≤ 5; omega⟩
        · split
          · exact ⟨by show (0 : Int) ≤ 0; omega, by show (0 : Int) ≤ 5; omega⟩
          · exact fOpen_I _
  · have h2 : (vget (bl s)).2.2 ≤ 2 := vgf_two (bl s) 0 0
    show 0 ≤ (((vget (bl s)).2.2 : Nat) : Int) ∧ (((vget (bl s)).2.2 : Nat) : Int) ≤ 5
    omega
theorem pErr_I (s : ByteArray) (v : Nat) : I64 (pErr s v) := by
  unfold pErr
  split
  · have := fGet_I (s.extract v s.size); unfold I64; omega
  · unfold I64; decide
/-! ### what is left of a builder, and of a cursor -/
section
variable {w0 W W' : World} {l : List UInt8}
theorem USt.strO (h : USt w0 W l) (x : ByteArray) (hl : l.length + x.size ≤ 100000000) :
    Calls Tryz.prog 9 #[.pointer (some ⟨w0.heap.size, 0, none⟩), .string x] W fun e w' => (∃ r, e = .returned (.tuple #[.int .i64 r, .nilIface])) ∧ USt w0 w' (l ++ bL x) ∧ Oth w0.heap.size W w' :=
  (b_WriteString w0.heap.size w0.heap.size _ x W h.1 (by rw [bc_len]; omega) h.2.size).mono fun e w' ⟨he, h1, h2, h3⟩ => ⟨⟨_, he⟩, ⟨UsedB.is (by rw [bc_app]; exact h1), h.2.trans h2⟩, h3⟩
theorem CurI.oth {g : Nat} {s : ByteArray} {at_ cnt b : Nat} (h : CurI W g s at_ cnt) (ho : Oth b W W') (hg : g ≠ b) : CurI W' g s at_ cnt :=
  ⟨ho g _ h.1 (fun e => hg (Option.some.inj e)) (fun c fz e => by injection e with _ e2; exact absurd e2 (by decide)), h.2⟩
theorem usedB_mod {g : Nat} {p : Value} {bs : List Value} {cs : Array Value} (h : Lib.BuilderAtF 31 5 w0.heap.size w0.heap.size p bs W) (hm : Mod (fun k => k = g) W W') (hb : Blk W g 64 cs) (hg : g ≠ w0.heap.size) :
    Lib.BuilderAtF 31 5 w0.heap.size w0.heap.size p bs W' := by
  obtain ⟨hB, v, hbk, hown, hne⟩ := h
  refine ⟨hB, v, (hm.block _ (Array.getElem?_eq_some_iff.1 hbk).1 (fun e => hg e.symm)).trans hbk, hown.kept (row := some g) ⟨hm.os, hm.tape, hm.output, hm.size, fun k hk hne => hm.block k hk (fun e => hne (by rw [e]))⟩ ?_, hne⟩
  rcases hown.2 with ⟨rfl, _⟩ | ⟨g', cap, cur, fz, rfl, _, hgg, _⟩
  · exact .inl rfl
  · refine .inr (fun e => ?_)
    have e2 : g' = g := by simpa [Value.ownBlock] using e
    subst e2
    unfold Blk at hb
    rw [hgg] at hb
    injection hb with hb
    injection hb with _ e3
    exact absurd e3 (by decide)
theorem USt.modg {g : Nat} {cs : Array Value} (h : USt w0 W l) (hm : Mod (fun k => k = g) W W') (hb : Blk W g 64 cs) (hg : w0.heap.size < g) : USt w0 W' l :=
  ⟨h.1.elim (fun x => .inl (usedB_mod x hm hb (by omega))) (fun x => .inr (usedB_mod x hm hb (by omega))), bel_mod h.2 hm (fun i hi e => by omega)⟩
end
end Go.Proofs.YtioaijjmialdoaaGreatDoor
