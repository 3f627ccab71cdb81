
/- Rules in words (package config), walked. No condition but the tables and variables of Go's own library. -/
import Derived.Test.YthdblloiapadkaaDoorChoiceB
import Derived.Test.YthdblloiapadkaaDoorGenCheck
import Derived.Lib.QuietBelow
namespace Go.Proofs.YthdblloiapadkaaDoor
set_option maxRecDepth 100000
set_option linter.unusedSimpArgs false
open Go.RowKit
set_option linter.unusedVariables false
set_option linter.unusedSimpArgs false

/-- words: numbers behind the first one -/
def wordsL (l : List Int) : List UInt8 := l.flatMap fun n => 32 :: Lib.itoa n
def lnL (word : List UInt8) (l : List Int) : List UInt8 := word ++ wordsL l ++ [10]
theorem wordsL_snoc (l : List Int) (n : Int) : wordsL (l ++ [n]) = wordsL l ++ 32 :: Lib.itoa n := by unfold wordsL; simp
theorem wordsL_len {l : List Int} (h : ∀ n ∈ l, I64 n) : (wordsL l).length ≤ 22 * l.length := by
  induction l with
  | nil => simp [wordsL]
  | cons n l ih =>
    have h1 := itoa_len (h n (List.mem_cons_self ..))
    have h2 := ih (fun x hx => h x (List.mem_cons_of_mem _ hx))
    unfold wordsL at h2 ⊢
    simp only [List.flatMap_cons, List.length_append, List.length_cons]
    omega
set_option maxHeartbeats 4000000 in
theorem config_line (s : ByteArray) (A : Option Addr) (c : Nat) (l : List Int) (w : World) (hr : Rd w A (l.map iV)) (hI : ∀ n ∈ l, I64 n) (hl : l.length ≤ 100) (hs : s.size ≤ 100) (hP : PowT w) :
    Calls Tryd.prog 68 #[.string s, .slice A l.length c] w fun e w' => e = .returned (.string (strOf (lnL (bL s) l))) ∧ Below w.heap.size w w' := by
  have HR := hid' hr
  have HI := hid' hI
  have HP := hid' hP
  have HB0 := hid' (bel_refl w)
  have hsz := fun k => wordsL_len (l := l.take k) (fun n hn => hI n (List.mem_of_mem_take hn))
  have HSZ := hid' hsz
  have h0 : s = strOf (bL s ++ wordsL (l.take 0)) := by rw [List.take_zero]; exact bL_inj (by rw [bL_str]; simp [wordsL])
  have HS0 := hid' h0
  clear hr hI hP hsz h0
  go_enter Tryd.func68, Tryd.ntmps68
  go_wp2
  go_loopw [0, 6, 9] (fun v0 v6 v9 wr => ∃ k : Nat, k ≤ l.length ∧ v9 = .int .i64 k ∧ v0 = .string (strOf (bL s ++ wordsL (l.take k))) ∧ Below w.heap.size w wr) (fun _ _ v9 _ => l.length - (intOf v9).toNat)
  case atStart => exact ⟨0, Nat.zero_le _, rfl, by rw [← HS0.out], HB0.out⟩
  case round =>
    obtain ⟨k, hk, rfl, rfl, hL⟩ := hrel
    have HL := hid' hL
    have hlen := HSZ.out k
    rw [List.length_take] at hlen
    obtain ⟨p, hp⟩ : ∃ p, p = strOf (bL s ++ wordsL (l.take k)) := ⟨_, rfl⟩
    have hps : p.size ≤ 2400 := by
      rw [hp]
      show (bL s ++ wordsL (l.take k)).length ≤ _
      rw [List.length_append, bL_len]; omega
    rw [← hp]
    have HPP := hid' hp
    by_cases hlt : k < l.length
    · have hlti : (k : Int) < (l.length : Int) := by omega
      obtain ⟨ad, n, rfl, hx, hcell⟩ := (HR.out.below hL).at_ hlt
      change wr.cell? (ad.add k) = some (.int .i64 n) at hcell
      have hn := HI.out n (List.mem_of_getElem? hx)
      have hz := numT_size hn
      have HT := hid' (itoaW n wr hn (HP.out.below hL))
      have hnext : p ++ ((⟨#[32]⟩ : ByteArray) ++ numT n) = strOf (bL s ++ wordsL (l.take (k + 1))) := by
        rw [hp, List.take_add_one, hx, Option.toList_some, wordsL_snoc]
        unfold numT
        rw [show (⟨#[32]⟩ : ByteArray) = strOf [32] from rfl, strN_app, strN_app]
        simp
      have HNX := hid' hnext
      have h1 : 1 + (numT n).size ≤ 9223372036854775807 := by omega
      have h2 : p.size + (1 + (numT n).size) ≤ 9223372036854775807 := by omega
      have h3 : p.size + ((⟨#[32]⟩ : ByteArray) ++ numT n).size ≤ 9223372036854775807 := by rw [ByteArray.size_append]; exact h2
      clear hL hx hp hnext hlen hps
      generalize numT n = y at *
      go_wp2_with fail
      refine HT.out.mono ?_
      rintro e w2 ⟨rfl, hB2⟩
      go_wp2
      go_roundw
      case rel => exact ⟨k + 1, by omega, by go_num, by rw [← HNX.out], bel_then HL.out hB2⟩
      case measure => (simp only [intOf]; omega)
    · obtain rfl : k = l.length := by omega
      rw [List.take_length] at HPP
      have hend : p ++ (⟨#[10]⟩ : ByteArray) = strOf (lnL (bL s) l) := by
        rw [HPP.out, show (⟨#[10]⟩ : ByteArray) = strOf [10] from rfl, strN_app]; rfl
      have HE := hid' hend
      have h1 : p.size + 1 ≤ 9223372036854775807 := by omega
      clear hL hp hend
      go_wp2
      go_ret
      refine ⟨?_, HL.out⟩
      rw [← HE.out]
      first | rfl | go_simp
def namesV : Value := .agg #[.string ⟨#[98, 111, 117, 110, 100, 101, 100]⟩, .string ⟨#[109, 97, 114, 107, 101, 100]⟩, .string ⟨#[112, 101, 114, 99, 101, 110, 116]⟩]
theorem config_names (w : World) : Calls Tryd.prog 67 #[] w fun e w' => e = .returned namesV ∧ Below w.heap.size w w' := by
  have HK := hid' (Blk.new_ w 98 #[.string ⟨#[]⟩, .string ⟨#[]⟩, .string ⟨#[]⟩])
  have c0 := HK.out.frozen 0
  have c1 := HK.out.frozen 1
  have c2 := HK.out.frozen 2
  go_enter Tryd.func67, Tryd.ntmps67
  go_wp2
  refine bodyPost_ret (v := namesV) ?_ rfl ⟨rfl, ?_⟩
  · rw [results_cell1 rfl]; unfold namesV; go_simp
  · exact bel_alloc (bel_refl w) _
end Go.Proofs.YthdblloiapadkaaDoor
