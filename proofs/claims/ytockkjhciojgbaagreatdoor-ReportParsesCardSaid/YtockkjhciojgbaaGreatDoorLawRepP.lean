
/- ONE SPELLING: what any text is read as is a script in these words; else there is a line at which it ends to be one. -/
import Derived.Test.YtockkjhciojgbaaGreatDoorRepLaw
import Derived.Test.YtockkjhciojgbaaGreatDoorLawRepE
namespace Go.Proofs.YtockkjhciojgbaaGreatDoor
set_option maxRecDepth 100000
set_option linter.unusedSimpArgs false
open Go.RowKit
set_option linter.unusedVariables false
set_option linter.unusedSimpArgs false

theorem ge_flat {α : Type} {f : α → List UInt8} {l : List α} {k : Nat} (h : ∀ x ∈ l, k ≤ (f x).length) : k * l.length ≤ (l.flatMap f).length := by
  induction l with
  | nil => simp
  | cons x l ih =>
    have h1 := h x (List.mem_cons_self ..)
    have h2 := ih (fun y hy => h y (List.mem_cons_of_mem _ hy))
    rw [List.flatMap_cons, List.length_append, List.length_cons, Nat.mul_add, Nat.mul_one]
    omega
theorem mem_flat {α : Type} {f : α → List UInt8} {l : List α} {x : α} (h : x ∈ l) : (f x).length ≤ (l.flatMap f).length := by
  induction l with
  | nil => cases h
  | cons y l ih =>
    rw [List.flatMap_cons, List.length_append]
    rcases List.mem_cons.1 h with rfl | h
    · omega
    · have := ih h; omega
theorem ungo_leB : ∀ (f : Nat) (acc l x : List UInt8), unqGo f acc l = some x → x.length ≤ acc.length + l.length := by
  intro f
  induction f with
  | zero =>
    intro acc l x h
    unfold unqGo at h
    split at h
    · simp only [Option.some.injEq] at h; subst h; omega
    · cases h
  | succ f ih =>
    intro acc l x h
    unfold unqGo at h
    split at h
    · simp only [Option.some.injEq] at h; subst h; omega
    · rename_i hl
      split at h
      · cases h
      · have h1 := ih _ _ _ h
        have h2 := piece_le l hl
        rw [List.length_append, List.length_drop] at h1
        omega
theorem unp_leB {q x : List UInt8} (h : unqP q = some x) : x.length ≤ q.length := by
  unfold unqP at h
  split at h
  · cases h
  · split at h
    · cases h
    · rename_i y hy
      split at h
      · simp only [Option.some.injEq] at h
        subst h
        have := ungo_leB _ _ _ _ hy
        simp only [List.length_nil, List.length_take, List.length_drop] at this
        omega
      · cases h
theorem quoteP_geB (x : ByteArray) : x.size ≤ (quoteP x).length := by
  have := unp_leB (unqP_quote x)
  rw [bL_len] at this
  exact this
/-- a script's parts are no longer than its text -/
theorem script_parts {l : List Rl} {t d : Int} {lg : List (List UInt8)} {ch : List (Bool × Int)} (hI : ∀ r ∈ l, rlI r) (ho : ∀ r ∈ l, rlO r = true) :
    l.length ≤ (scriptL l t d lg ch).length ∧ 4 * lg.length ≤ (scriptL l t d lg ch).length ∧ ch.length ≤ (scriptL l t d lg ch).length ∧ ∀ x ∈ lg, x.length ≤ (scriptL l t d lg ch).length := by
  have h0 : (scriptL l t d lg ch).length = (cfgL l t d).length + (logsL lg).length + (chsL ch).length := by rw [scriptL_eq, List.length_append, List.length_append]
  have h1 : 1 * l.length ≤ (l.flatMap rlL).length := ge_flat (fun r hr => by rw [(lnOf_back (hI r hr) (ho r hr)).1]; simp)
  have h2 : 4 * lg.length ≤ (logsL lg).length := ge_flat (fun x hx => by unfold logL; have hw : wLog.length = 4 := rfl; simp only [List.length_append]; omega)
  have h3 : 1 * ch.length ≤ (chsL ch).length := ge_flat (fun x hx => by simp)
  have h4 : (cfgL l t d).length = (lnL wSource [t, d]).length + (l.flatMap rlL).length := by unfold cfgL; rw [List.length_append]
  refine ⟨by omega, by omega, by omega, fun x hx => ?_⟩
  have h5 : (logL x ++ [10]).length ≤ (logsL lg).length := mem_flat (f := fun x => logL x ++ [10]) hx
  have h6 := quoteP_geB ⟨x.toArray⟩
  have h7 : (⟨x.toArray⟩ : ByteArray).size = x.length := by simp [ByteArray.size]
  unfold logL at h5
  simp only [List.length_append] at h5
  omega
theorem join_unl : ∀ (x : List UInt8) (r : List (List UInt8)), Lib.join (x :: r) [10] ++ [10] = unl (x :: r) := by
  intro x r
  rw [Lib.join_cons]
  induction r generalizing x with
  | nil => simp [unl, Lib.joinTail]
  | cons y r ih =>
    have h1 : unl (x :: y :: r) = x ++ [10] ++ unl (y :: r) := by unfold unl; rw [List.flatMap_cons]
    rw [h1, ← ih y]
    simp [Lib.joinTail, List.append_assoc]
theorem unl_all : ∀ (h : List UInt8) (t : List (List UInt8)), unl (h :: t) = h ++ joinC 10 t ++ [10]
  | h, [] => by simp [unl, joinC]
  | h, x :: t => by
    have h1 : unl (h :: x :: t) = h ++ [10] ++ unl (x :: t) := by unfold unl; rw [List.flatMap_cons]
    rw [h1, unl_all x t]
    simp [joinC]
theorem unl_take_le (L : List (List UInt8)) (m : Nat) : (unl (L.take m)).length ≤ (unl L).length := by
  conv => rhs; rw [← List.take_append_drop m L, unl_app, List.length_append]
  omega
theorem unl_spl_len (s : List UInt8) : (unl (spl 10 s)).length = s.length + 1 := by
  cases h : spl 10 s with
  | nil => exact absurd h (spl_ne 10 s)
  | cons a t => rw [unl_all, ← spl_join h]; simp
theorem parse_small (x : ByteArray) (hx : x.size ≤ 5000) (W : World) (hT : TabT W) : Calls Tryz.prog 11 #[.string x] W fun e w' => PScript w' (parseT (bL x)) e ∧ Below W.heap.size W w' := by
  refine report_Parse x W (by omega) ?_ ?_ hT
  · have h1 := spl_len 10 (bL x)
    rw [bL_len] at h1; omega
  · intro y hy
    have h1 := spl_mem_len y hy
    rw [bL_len] at h1; omega
theorem PScript.any {w' : World} {o : RSt ⊕ Nat} {e : Ending} (h : PScript w' o e) : ∃ A1 n1 c1 t d A2 n2 c2 A3 n3 c3 v, e = .returned (.tuple #[.agg #[.slice A1 n1 c1, .int .i64 t, .int .i64 d, .slice A2 n2 c2, .slice A3 n3 c3], .int .i64 v]) ∧ (∀ j, o = .inr j → v = (j : Int)) ∧ (∀ r, o = .inl r → v = 0) := by
  cases o with
  | inl r =>
    obtain ⟨cA, cq, lA, lq, kA, kq, h, _⟩ := h
    exact ⟨_, _, _, _, _, _, _, _, _, _, _, 0, h, fun j hj => (by cases hj), fun _ _ => rfl⟩
  | inr k =>
    have h2 : e = .returned (.tuple #[zScript, .int .i64 (k : Int)]) := h
    exact ⟨none, 0, 0, 0, 0, none, 0, 0, none, 0, 0, _, h2, fun j hj => (by cases hj; rfl), fun r hr => (by cases hr)⟩
theorem run_small (x : ByteArray) (hx : x.size ≤ 5000) (W : World) (hT : TabT W) (k : Nat) (hk : 0 < k ∧ k ≤ 1000000) (hp : parseT (bL x) = .inr k) :
    Calls Tryz.prog 15 #[.string x] W fun e w' => e = .returned (.string (strOf (lnL wLine [(k : Int)]))) ∧ Below W.heap.size W w' := by
  refine report_RunBad x W k (by omega) ?_ ?_ hT hk hp
  · have h1 := spl_len 10 (bL x)
    rw [bL_len] at h1; omega
  · intro y hy
    have h1 := spl_mem_len y hy
    rw [bL_len] at h1; omega
theorem line_txt (k : Nat) : (⟨#[108, 105, 110, 101, 32]⟩ : ByteArray) ++ numT (k : Int) ++ ⟨#[10]⟩ = strOf (lnL wLine [(k : Int)]) := by
  unfold numT
  rw [show (⟨#[108, 105, 110, 101, 32]⟩ : ByteArray) = strOf (wLine ++ [32]) from rfl, show (⟨#[10]⟩ : ByteArray) = strOf [10] from rfl, strN_app, strN_app]
  congr 1
  unfold lnL wordsL
  simp
set_option maxHeartbeats 16000000 in
theorem parses_good (s : ByteArray) (w : World) (hT : TabT w) (hs : s.size ≤ 4000) (r : RSt) (hp : parseT (bL s) = .inl r) :
    Calls Tryz.prog 5 #[.string s] w fun e w' => e = .returned (.bool true) ∧ Below w.heap.size w w' := by
  obtain ⟨l, t, d, hcf, hI, ho, ht, hd, hci, hS⟩ := parseT_told hp
  obtain ⟨hd0, cfg, lg, ch, part⟩ := r
  simp only at hcf hci hS
  subst hcf
  have hpt := script_parts (t := t) (d := d) (lg := lg) (ch := ch) hI ho
  rw [hS, bL_len] at hpt
  have HT := hid' hT
  have HSP := hid' (speaks26 w hT)
  have HPA := hid' (fun W (h : Below w.heap.size w W) => parse_small s (by omega) W (hT.below h))
  rw [hp] at HPA
  have hl1 : l.length ≤ 1000000 := by omega
  have hst : strOf (scriptL l t d lg ch) = s := by rw [hS]; rfl
  have hall : l.all rlO = true := by rw [List.all_eq_true]; exact ho
  have HTD := hid' (fun (A AL AC : Option Addr) (cp cl cc : Nat) (W : World) (hr : RdS W A 5 fRl l) => by
    have h := law26_told A AL AC cp cl cc lg.length ch.length t d l W hr hl1
    rw [hall, Bool.true_and] at h
    exact h)
  have HPL := hid' (fun (A AL AC : Option Addr) (cp cl cc : Nat) (W : World) (h100 : l.length < 100) (hr : RdS W A 5 fRl l) (hlog : Rd W AL (lg.map sV)) (hch : RdS W AC 2 fCh ch) => by
    have h := law26_print A AL AC cp cl cc t d l lg ch W hr hlog hch (by omega) (by omega) (by omega) hI ht hd (fun x hx => by have := hpt.2.2.2 x hx; omega) hci
    rw [hst] at h
    exact h)
  have h4 : ¬ (4000 : Int) < (s.size : Int) := by omega
  clear hT hp hI ho ht hd hci hS hpt hst hall hl1 hs
  go_enter Tryz.func5, Tryz.ntmps5
  go_wp2_with fail
  refine HSP.out.mono ?_
  rintro e w1 ⟨rfl, hB1⟩
  have HB1 := hid' hB1
  clear hB1
  go_wp2_with fail
  refine (HPA.out w1 HB1.out).mono ?_
  rintro e w5 ⟨hP, hB5⟩
  obtain ⟨cA, cq, lA, lq, kA, kq, rfl, k1, k2, k3⟩ := hP
  dsimp only at k1 k2 k3 ⊢
  have hb6 := bel_alloc (bel_refl w5) (.cells #[.slice cA l.length cq, .int .i64 t, .int .i64 d, .slice lA lg.length lq, .slice kA ch.length kq] 32)
  have HB6 := hid' (bel_then (bel_then HB1.out hB5) hb6)
  have HJ6 := hid' (Blk.new_ w5 32 #[.slice cA l.length cq, .int .i64 t, .int .i64 d, .slice lA lg.length lq, .slice kA ch.length kq])
  have HX1 := hid' (k1.below hb6)
  have HX2 := hid' (k2.below hb6)
  have HX3 := hid' (k3.below hb6)
  clear hB5 hb6 k1 k2 k3
  go_wp2_with fail
  generalize hcb : w5.heap.size = cb at *
  generalize w5.alloc (.cells #[.slice cA l.length cq, .int .i64 t, .int .i64 d, .slice lA lg.length lq, .slice kA ch.length kq] 32) = w6 at *
  clear hcb
  refine (HTD.out cA lA kA cq lq kq w6 HX1.out).mono ?_
  rintro e w7 ⟨rfl, hB7⟩
  have HB7 := hid' (bel_then HB6.out hB7)
  have HJ7 := hid' (HJ6.out.below hB7)
  have HY1 := hid' (HX1.out.below hB7)
  have HY2 := hid' (HX2.out.below hB7)
  have HY3 := hid' (HX3.out.below hB7)
  have j0 := HJ7.out.cell 0
  have j1 := HJ7.out.cell 1
  have j2 := HJ7.out.cell 2
  have j3 := HJ7.out.cell 3
  have j4 := HJ7.out.cell 4
  clear hB7
  by_cases h100 : l.length < 100
  · have hd1 : decide (l.length < 100) = true := decide_eq_true h100
    have HPP := hid' (HPL.out cA lA kA cq lq kq w7 h100 HY1.out HY2.out HY3.out)
    rw [hd1]
    clear h100 hd1
    go_wp2_with fail
    refine HPP.out.mono ?_
    rintro e w8 ⟨rfl, hB8⟩
    have HB8 := hid' (bel_then HB7.out hB8)
    clear hB8
    go_wp2
    go_ret
    exact ⟨rfl, HB8.out⟩
  · have hd1 : decide (l.length < 100) = false := decide_eq_false h100
    have h101 : (100 : Int) ≤ (l.length : Int) := by omega
    rw [hd1]
    clear h100 hd1
    go_wp2
    go_ret
    exact ⟨rfl, HB7.out⟩
set_option maxHeartbeats 16000000 in
theorem parses_bad (s : ByteArray) (w : World) (hT : TabT w) (hs : s.size ≤ 4000) (k : Nat) (hp : parseT (bL s) = .inr k) :
    Calls Tryz.prog 5 #[.string s] w fun e w' => e = .returned (.bool true) ∧ Below w.heap.size w w' := by
  obtain ⟨g1, g2, g3, g4⟩ := parseT_bad hp
  have hln := spl_len 10 (bL s)
  rw [bL_len] at hln
  have hk5 : k ≤ 5000 := by omega
  have HT := hid' hT
  have HSP := hid' (speaks26 w hT)
  have HPA := hid' (fun W (h : Below w.heap.size w W) => parse_small s (by omega) W (hT.below h))
  rw [hp] at HPA
  have HRN := hid' (fun W (h : Below w.heap.size w W) => run_small s (by omega) W (hT.below h) k ⟨by omega, by omega⟩ hp)
  rw [← line_txt] at HRN
  have hkI : I64 (k : Int) := by unfold I64; omega
  have HNM := hid' (fun W => ref19_Num (k : Int) W hkI)
  have hnz := numT_size hkI
  have HSM := hid' (fun W => law26_same none none none none none none 0 0 0 0 0 0 0 0 [] [] [] W (fun j x h => by simp at h) (fun j x h => by simp at h) (fun j x h => by simp at h) (fun j x h => by simp at h) (fun j x h => by simp at h) (fun j x h => by simp at h) (by simp) (by simp) (by simp))
  have HG := hid' (And.intro g1 (And.intro g2 (And.intro g3 g4)))
  have HSZ := hid' hs
  have h4 : ¬ (4000 : Int) < (s.size : Int) := by omega
  have hs6 : s.size ≤ 1000000 := by omega
  have hk0 : ((k : Int) == 0) = false := by rw [beq_eq_false_iff_ne]; omega
  have hk1 : ¬ (k : Int) < 1 := by omega
  obtain ⟨y, hy⟩ : ∃ y, y = numT (k : Int) := ⟨_, rfl⟩
  rw [← hy] at HNM HRN hnz
  have q1 : 5 + y.size ≤ 9223372036854775807 := by omega
  have q2 : 5 + y.size + 1 ≤ 9223372036854775807 := by omega
  clear hT hp g1 g2 g3 g4 hln hkI hy hs
  go_enter Tryz.func5, Tryz.ntmps5
  go_wp2_with fail
  refine HSP.out.mono ?_
  rintro e w1 ⟨rfl, hB1⟩
  have HB1 := hid' hB1
  clear hB1
  go_wp2_with fail
  refine (HPA.out w1 HB1.out).mono ?_
  rintro e w5 ⟨hP, hB5⟩
  have hP2 : e = .returned (.tuple #[.agg #[.slice none 0 0, .int .i64 0, .int .i64 0, .slice none 0 0, .slice none 0 0], .int .i64 (k : Int)]) := hP
  subst hP2
  have hb6 := bel_alloc (bel_refl w5) (.cells #[.slice none 0 0, .int .i64 0, .int .i64 0, .slice none 0 0, .slice none 0 0] 32)
  have HB6 := hid' (bel_then (bel_then HB1.out hB5) hb6)
  have HJ6 := hid' (Blk.new_ w5 32 #[.slice none 0 0, .int .i64 0, .int .i64 0, .slice none 0 0, .slice none 0 0])
  clear hB5 hb6 hP
  go_wp2_with fail
  generalize hcb : w5.heap.size = cb at *
  generalize w5.alloc (.cells #[.slice none 0 0, .int .i64 0, .int .i64 0, .slice none 0 0, .slice none 0 0] 32) = w6 at *
  clear hcb
  obtain ⟨H, T, hsp, hcall⟩ := splitW 10 s ⟨#[10]⟩ w6 rfl hs6 (HT.out.below HB6.out).2.2.1
  obtain ⟨N, hN⟩ : ∃ N, N = T.length := ⟨_, rfl⟩
  rw [← hN] at hcall
  have HC := hid' hcall
  have HN := hid' hN
  have HSPL := hid' hsp
  have hkN : k ≤ N + 1 := by
    have h := HG.out.2.1
    rw [← hsp, List.length_cons, List.length_map, ← hN] at h
    exact h
  clear hcall hN hsp
  refine HC.out.mono ?_
  rintro e w7 ⟨rfl, rfl⟩
  have hba := bel_alloc (bel_refl w6) (.cells ((H :: T).map Value.string).toArray 9)
  have HB7 := hid' (bel_then HB6.out hba)
  have HJ7 := hid' (HJ6.out.below hba)
  have HR7 := hid' ((Blk.new_ w6 9 ((H :: T).map Value.string).toArray).rd (xs := (H :: T).map Value.string) rfl)
  generalize hlb : w6.heap.size = lb at *
  have hlb7 : lb < (w6.alloc (.cells ((H :: T).map Value.string).toArray 9)).heap.size := by simp; omega
  generalize w6.alloc (.cells ((H :: T).map Value.string).toArray 9) = w7 at *
  have j0 := HJ7.out.cell 0
  have j1 := HJ7.out.cell 1
  have j2 := HJ7.out.cell 2
  have j3 := HJ7.out.cell 3
  have j4 := HJ7.out.cell 4
  have hgt : ¬ (N : Int) + 1 < (k : Int) := by omega
  clear hba hlb HC
  go_wp2_with fail
  refine (HSM.out w7).mono ?_
  rintro e w8 ⟨rfl, hB8⟩
  have HB8 := hid' (bel_then HB7.out hB8)
  have HR8 := hid' (HR7.out.below hB8)
  have hlb8 : lb < w8.heap.size := Nat.lt_of_lt_of_le hlb7 hB8.size
  clear hB8 j0 j1 j2 j3 j4
  go_wp2_with fail
  refine (HRN.out w8 HB8.out).mono ?_
  rintro e w9 ⟨rfl, hB9⟩
  have HB9 := hid' (bel_then HB8.out hB9)
  have HR9 := hid' (HR8.out.below hB9)
  have hlb9 : lb < w9.heap.size := Nat.lt_of_lt_of_le hlb8 hB9.size
  clear hB9
  go_wp2_with fail
  refine (HNM.out w9).mono ?_
  rintro e wa ⟨rfl, hBa⟩
  have HBa := hid' (bel_then HB9.out hBa)
  have HRa := hid' (HR9.out.below hBa)
  have hlba : lb < wa.heap.size := Nat.lt_of_lt_of_le hlb9 hBa.size
  clear hBa
  by_cases hk11 : k = 1
  · subst hk11
    go_wp2
    go_ret
    exact ⟨rfl, HBa.out⟩
  have hk1b : ((k : Int) == 1) = false := by rw [beq_eq_false_iff_ne]; omega
  obtain ⟨m, hm⟩ : ∃ m, m + 1 = k := ⟨k - 1, by have := HG.out.1; omega⟩
  have hkm : (k : Int) - 1 = (m : Int) := by omega
  have hmN : m < N + 1 := by omega
  have hm0 : 1 ≤ m := by have := HG.out.1; omega
  have hcut := cut_h (P := Tryz.prog) 29 9 1 Tryz.underlying29 (by kernel_rfl) (some ⟨lb, 0, none⟩) (N + 1) (N + 1) m (by omega)
  have hHT : (H :: T).length = N + 1 := by rw [List.length_cons, ← HN.out]
  obtain ⟨x0, xr, hx0⟩ : ∃ x0 xr, (H :: T).take m = x0 :: xr := by
    cases m with
    | zero => omega
    | succ m => exact ⟨_, _, List.take_succ_cons⟩
  have hxm : ((H :: T).take m).length = m := by rw [List.length_take]; omega
  have hxs : ((H :: T).take m).map bL = (spl 10 (bL s)).take m := by rw [List.map_take, List.map_cons, HSPL.out]
  have hun : (unl ((spl 10 (bL s)).take m)).length ≤ 4001 := by
    have h1 := unl_take_le (spl 10 (bL s)) m
    rw [unl_spl_len, bL_len] at h1
    have := HSZ.out
    omega
  have hju : Lib.join (((H :: T).take m).map bL) [10] ++ [10] = unl ((spl 10 (bL s)).take m) := by
    rw [← hxs, hx0, List.map_cons, join_unl]
  have hjl : (Lib.join (((H :: T).take m).map bL) [10]).length ≤ 4000 := by
    have := congrArg List.length hju
    rw [List.length_append, List.length_singleton] at this
    omega
  obtain ⟨J, hJe⟩ : ∃ J, J = strOf (Lib.join (((H :: T).take m).map bL) [10]) := ⟨_, rfl⟩
  have hJz : J.size ≤ 4000 := by rw [hJe]; exact hjl
  have hAH : J ++ ⟨#[10]⟩ = strOf (unl ((spl 10 (bL s)).take m)) := by
    rw [hJe, show (⟨#[10]⟩ : ByteArray) = strOf [10] from rfl, strN_app, hju]
  have hJ := Tryz.strings_Join lb 0 (N + 1) ((H :: T).take m) ⟨#[10]⟩ wa (fun j x hj => by
    rw [List.getElem?_take] at hj
    split at hj
    · obtain ⟨ad, e, hc⟩ := HRa.out j (.string x) (by rw [List.getElem?_map, hj]; rfl)
      injection e with e
      subst e
      rw [Addr.add_lit] at hc
      exact hc
    · cases hj) hlba (by omega) (by omega) (by
      have : (Lib.join (((H :: T).take m).map bL) [10]).length ≤ 140737488355328 := by omega
      exact this)
  rw [hxm] at hJ
  have HJ := hid' (show Calls Tryz.prog 17 #[.slice (some ⟨lb, 0, none⟩) m (N + 1), .string ⟨#[10]⟩] wa (fun e w' => e = .returned (.string J) ∧ Below wa.heap.size wa w') from by rw [hJe]; exact hJ)
  obtain ⟨z, hz⟩ : ∃ z, (H :: T)[m]? = some z := ⟨_, List.getElem?_eq_getElem (by omega)⟩
  have hzm : (spl 10 (bL s))[m]? = some (bL z) := by rw [← HSPL.out, ← List.map_cons, List.getElem?_map, hz]; rfl
  have hA2 : J ++ ⟨#[10]⟩ ++ z ++ ⟨#[10]⟩ = strOf (unl ((spl 10 (bL s)).take k)) := by
    rw [hAH, show z = strOf (bL z) from rfl, show (⟨#[10]⟩ : ByteArray) = strOf [10] from rfl, strN_app, strN_app, ← hm, List.take_add_one, hzm, Option.toList_some, unl_app]
    congr 1
    simp [unl]
  have hzl : z.size ≤ 4000 := by
    have h1 := spl_mem_len (c := 10) (l := bL s) (bL z) (List.mem_of_getElem? hzm)
    rw [bL_len, bL_len] at h1
    have := HSZ.out
    omega
  have hzc : ∀ W, Below wa.heap.size wa W → W.cell? ⟨lb, m, none⟩ = some (.string z) := by
    intro W h
    obtain ⟨ad, e, hc⟩ := (HRa.out.below h) m (.string z) (by rw [List.getElem?_map, hz]; rfl)
    injection e with e
    subst e
    rw [Addr.add_lit, Nat.zero_add] at hc
    exact hc
  have HZC := hid' hzc
  have HP1 := hid' (fun W (h : Below w.heap.size w W) => parse_small (J ++ ⟨#[10]⟩) (by rw [ByteArray.size_append]; show J.size + 1 ≤ _; omega) W (HT.out.below h))
  have HP2 := hid' (fun W (h : Below w.heap.size w W) => parse_small (J ++ ⟨#[10]⟩ ++ z ++ ⟨#[10]⟩) (by rw [hA2]; show (unl _).length ≤ _; have h1 := unl_take_le (spl 10 (bL s)) k; rw [unl_spl_len, bL_len] at h1; have := HSZ.out; omega) W (HT.out.below h))
  have hk1' : k - 1 = m := by omega
  obtain ⟨r1, hr1⟩ := HG.out.2.2.1 hk11
  rw [hk1'] at hr1
  have HE1 := hid' (show parseT (bL (J ++ ⟨#[10]⟩)) = .inl r1 from by rw [hAH, bL_str]; exact hr1)
  have HE2 := hid' (show k = N + 1 ∨ parseT (bL (J ++ ⟨#[10]⟩ ++ z ++ ⟨#[10]⟩)) = .inr k from by
    rcases HG.out.2.2.2 with h | h
    · left; rw [h, ← HSPL.out, List.length_cons, List.length_map, ← HN.out]
    · right; rw [hA2, bL_str]; exact h)
  have s1 : J.size + 1 ≤ 9223372036854775807 := by omega
  have s2 : J.size + 1 + z.size ≤ 9223372036854775807 := by omega
  have s3 : J.size + 1 + z.size + 1 ≤ 9223372036854775807 := by omega
  clear hxs hun hju hjl hJe hAH hJ hz hzm hA2 hzc hr1 hx0 hxm hHT hkm
  have hkm : (k : Int) - 1 = (m : Int) := by omega
  have hkN2 : (m : Int) < (N : Int) + 1 := by omega
  have hm00 : (0 : Int) ≤ (m : Int) := by omega
  go_wp2_with fail
  refine HJ.out.mono ?_
  rintro e wb ⟨rfl, hBb⟩
  have HBab := hid' hBb
  have HBb := hid' (bel_then HBa.out hBb)
  clear hBb
  go_wp2_with fail
  refine (HP1.out wb HBb.out).mono ?_
  rintro e wc ⟨hPc, hBc⟩
  obtain ⟨A1, n1, c1, td1, dd1, A2, n2, c2, A3, n3, c3, v, rfl, -, hv0⟩ := hPc.any
  have hv := hv0 r1 HE1.out
  subst hv
  have hbc2 := bel_alloc hBc (.cells #[.slice A1 n1 c1, .int .i64 td1, .int .i64 dd1, .slice A2 n2 c2, .slice A3 n3 c3] 32)
  have HBc := hid' (bel_then HBb.out hbc2)
  have hzw := HZC.out _ (bel_then HBab.out hbc2)
  clear hPc hv0 hBc hbc2
  go_wp2_with fail
  generalize wc.alloc (.cells #[.slice A1 n1 c1, .int .i64 td1, .int .i64 dd1, .slice A2 n2 c2, .slice A3 n3 c3] 32) = wd at *
  refine (HP2.out wd HBc.out).mono ?_
  rintro e we ⟨hPe, hBe⟩
  obtain ⟨B1, m1, e1, td2, dd2, B2, m2, e2, B3, m3, e3, v, rfl, hvk, -⟩ := hPe.any
  have HBe := hid' (bel_alloc (bel_then HBc.out hBe) (.cells #[.slice B1 m1 e1, .int .i64 td2, .int .i64 dd2, .slice B2 m2 e2, .slice B3 m3 e3] 32))
  have HVK := hid' hvk
  clear hPe hBe hvk hzw
  by_cases hvv : v = (k : Int)
  · have hvb : (v == (k : Int)) = true := by rw [beq_iff_eq]; exact hvv
    clear hvv
    go_wp2
    go_ret
    exact ⟨rfl, HBe.out⟩
  · have hvb : (v == (k : Int)) = false := by rw [beq_eq_false_iff_ne]; exact hvv
    have hkN1 : ((k : Int) == (N : Int) + 1) = true := by
      rw [beq_iff_eq]
      rcases HE2.out with h | h
      · omega
      · exact absurd (HVK.out k h) hvv
    clear hvv
    go_wp2
    go_ret
    exact ⟨rfl, HBe.out⟩
set_option maxHeartbeats 4000000 in
theorem reportParses (s : ByteArray) (w : World) (hs : s.size ≤ maxLen) (hP : PowT w) (hE : ErV w) (hM : MaxT w) (hU : U8T w) (hZ : TzT w) :
    Calls Tryz.prog 5 #[.string s] w fun e w' => e = .returned (.bool true) ∧ Below w.heap.size w w' := by
  have hT : TabT w := ⟨hP, hE, hM, hU, hZ⟩
  by_cases h4 : s.size ≤ 4000
  · cases hp : parseT (bL s) with
    | inl r => exact parses_good s w hT h4 r hp
    | inr k => exact parses_bad s w hT h4 k hp
  · have HSP := hid' (speaks26 w hT)
    have h5 : (4000 : Int) < (s.size : Int) := by omega
    clear hT hP hE hM hU hZ hs h4
    go_enter Tryz.func5, Tryz.ntmps5
    go_wp2_with fail
    refine HSP.out.mono ?_
    rintro e w1 ⟨rfl, hB1⟩
    go_wp2
    go_ret
    exact ⟨rfl, hB1⟩
end Go.Proofs.YtockkjhciojgbaaGreatDoor
