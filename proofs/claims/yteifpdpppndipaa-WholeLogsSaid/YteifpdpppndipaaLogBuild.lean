
/- The bytes of records (log.Build), their times, and the reference's bytes, walked. No condition. -/
import Derived.Test.YteifpdpppndipaaLogSame
import Derived.Test.YteifpdpppndipaaBuilderS
import Derived.Test.YteifpdpppndipaaShelf
import Derived.Test.YteifpdpppndipaaLawFrame
namespace Go.Proofs.Yteifpdpppndipaa
set_option maxRecDepth 100000
set_option linter.unusedSimpArgs false
open Go.RowKit
set_option linter.unusedVariables false
set_option linter.unusedSimpArgs false

def bErr : List Rec → Int
  | [] => 0
  | r :: l => if fCheck r = 0 then bErr l else fCheck r
def bEnc (l : List Rec) : ByteArray := if bErr l = 0 then bCat l else ⟨#[]⟩
theorem bErr_ok {l : List Rec} (h : ∀ r ∈ l, fCheck r = 0) : bErr l = 0 := by
  induction l with
  | nil => rfl
  | cons r l ih => unfold bErr; rw [if_pos (h r (List.mem_cons_self ..))]; exact ih (fun x hx => h x (List.mem_cons_of_mem _ hx))
theorem bErr_at : ∀ {l : List Rec} {i : Nat} {r : Rec}, (∀ x ∈ l.take i, fCheck x = 0) → l[i]? = some r → fCheck r ≠ 0 → bErr l = fCheck r
  | [], i, r, _, h, _ => by simp at h
  | x :: l, 0, r, _, h, hr => by
    simp at h; subst h
    unfold bErr; rw [if_neg hr]
  | x :: l, i + 1, r, h0, h, hr => by
    unfold bErr
    rw [if_pos (h0 x (by simp))]
    exact bErr_at (fun y hy => h0 y (by simp; exact .inr hy)) (by simpa using h) hr
theorem bErr_zero {l : List Rec} (h : bErr l = 0) : ∀ r ∈ l, fCheck r = 0 := by
  induction l with
  | nil => intro r hr; cases hr
  | cons x l ih =>
    unfold bErr at h
    split at h
    · rename_i hx
      intro r hr
      rcases List.mem_cons.1 hr with rfl | hr
      · exact hx
      · exact ih h r hr
    · rename_i hx; exact absurd h hx
theorem bCat_size_le {l : List Rec} (h : ∀ r ∈ l, fCheck r = 0 ∧ I64 r.2.1) : (bCat l).size ≤ l.length * 66000 := by
  induction l with
  | nil => show (0 : Nat) ≤ _; omega
  | cons r l ih =>
    obtain ⟨hc, hI⟩ := h r (List.mem_cons_self ..)
    have := ih (fun x hx => h x (List.mem_cons_of_mem _ hx))
    show (fFull r ++ bCat l).size ≤ _
    rw [size_app]
    have h1 := fFull_size r
    have h3 : (recBody r).size ≤ 65536 := by
      unfold fCheck at hc
      split at hc
      · split at hc
        · cases hc
        · omega
      · cases hc
    have h2 := vput10 (recBody r).size (by omega)
    simp only [List.length_cons]
    omega
theorem bl_bytes (s : ByteArray) : (⟨(bl s).toArray⟩ : ByteArray) = s := str_bl s
theorem bC_bytes (s : ByteArray) : bC s = Lib.byteCells (bl s) := rfl
set_option maxHeartbeats 4000000 in
theorem log_Build (A : Option Addr) (c : Nat) (l : List Rec) (w : World) (hr : RdS w A 3 fRec l) (hl : l.length ≤ 100000) (ht : ∀ r ∈ l, I64 r.2.1 ∧ r.2.2.size ≤ 200000) :
    Calls Try.prog 16 #[.slice A l.length c] w fun e w' => e = .returned (.tuple #[.string (bEnc l), .int .i64 (bErr l)]) ∧ Below w.heap.size w w' := by
  have HR := hid' hr
  have HT := hid' ht
  obtain ⟨n, hn⟩ : ∃ n, n = l.length := ⟨_, rfl⟩
  rw [← hn]
  have HN := hid' hn
  have hnb : n ≤ 100000 := by omega
  clear hr ht hl hn
  have HB0 := hid' (IsB.new_ w)
  have HL0 := hid' (bel_alloc (bel_refl w) (.cells #[.pointer none, .slice none 0 0] 53))
  go_enter Try.func16, Try.ntmps16
  go_wp2
  go_loopw [11] (fun v11 wr => ∃ i : Nat, i ≤ n ∧ v11 = .int .i64 i ∧ (∀ x ∈ l.take i, fCheck x = 0) ∧ IsB w.heap.size w.heap.size (bC (bCat (l.take i))) wr ∧ Below w.heap.size w wr) (fun v11 _ => n - (intOf v11).toNat)
  case atStart => exact ⟨0, Nat.zero_le _, rfl, fun x hx => by simp at hx, HB0.out, HL0.out⟩
  case round =>
    obtain ⟨i, hi, rfl, hok, hB, hL⟩ := hrel
    have HB := hid' hB
    have HL := hid' hL
    have HOK := hid' hok
    have hws := hL.size
    have hlt0 : w.heap.size < wr.heap.size := by rcases hB with h | h <;> exact h.lt
    clear hB hL hok
    by_cases hlt : i < n
    · obtain ⟨r, hx⟩ : ∃ x, l[i]? = some x := ⟨_, List.getElem?_eq_getElem (by rw [← HN.out]; exact hlt)⟩
      obtain ⟨ad, rfl, a0, a1, a2⟩ := (HR.out.below HL.out).rec hx
      obtain ⟨hI, hxs⟩ := HT.out r (List.mem_of_getElem? hx)
      have HE := hid' (fun W => frame_Encode r W hI hxs)
      have HX := hid' hx
      obtain ⟨kd, tm, x⟩ := r
      unfold recV at HE
      simp only at HE a0 a1 a2
      have HB1 := hid' (HB.out.alloc (.cells #[.int .i64 kd, .int .i64 tm, .string x] 40))
      have HL1 := hid' (bel_alloc HL.out (.cells #[.int .i64 kd, .int .i64 tm, .string x] 40))
      by_cases hc : fCheck (kd, tm, x) = 0
      · have hes : fEncS (kd, tm, x) = fFull (kd, tm, x) := by unfold fEncS; rw [if_pos hc]
        have htk := take_snoc' HX.out
        have hok2 : ∀ y ∈ l.take (i + 1), fCheck y = 0 := by
          intro y hy
          rw [htk] at hy
          rcases List.mem_append.1 hy with hy | hy
          · exact HOK.out y hy
          · rw [List.mem_singleton] at hy; subst hy; exact hc
        have hsz := bCat_size_le (l := l.take (i + 1)) (fun y hy => ⟨hok2 y hy, (HT.out y (List.mem_of_mem_take hy)).1⟩)
        rw [htk, bCat_snoc, size_app, List.length_append, List.length_take, List.length_singleton] at hsz
        have hcat : bCat (l.take (i + 1)) = bCat (l.take i) ++ fFull (kd, tm, x) := by rw [htk, bCat_snoc]
        rw [hes, hc] at HE
        obtain ⟨F, hF⟩ : ∃ F, F = fFull (kd, tm, x) := ⟨_, rfl⟩
        rw [← hF] at HE hsz hcat
        have HCAT := hid' hcat
        have HOK2 := hid' hok2
        have hlen : (bC (bCat (l.take i))).length + F.size ≤ 140737488355328 := by rw [bC_len]; omega
        clear hx hes htk hok2 hsz hcat hF hc hI hxs
        go_wp2_with (go_at_call 15; refine (HE.out _).mono ?_; rintro e w2 ⟨rfl, hB2⟩)
        refine (b_WriteString w.heap.size w.heap.size _ F _ (IsB.below HB1.out hB2) hlen (bel_then HL1.out hB2).size).mono ?_
        rintro e w3 ⟨rfl, h3, hb3, -⟩
        go_wp2
        go_roundw
        case rel => exact ⟨i + 1, by omega, by go_num, HOK2.out, by rw [HCAT.out, bC_app]; exact h3.is, (bel_then HL1.out hB2).trans hb3⟩
        case measure => first | (simp [intOf]; done) | (simp [intOf]; omega)
      · have hbe : bErr l = fCheck (kd, tm, x) := bErr_at HOK.out HX.out hc
        have hbs : bEnc l = ⟨#[]⟩ := by unfold bEnc; rw [if_neg (by rw [hbe]; exact hc)]
        obtain ⟨er, her⟩ : ∃ er, er = fCheck (kd, tm, x) := ⟨_, rfl⟩
        rw [← her] at HE hc hbe
        have hes : fEncS (kd, tm, x) = ⟨#[]⟩ := by unfold fEncS; rw [if_neg (by rw [← her]; exact hc)]
        rw [hes] at HE
        have HBE := hid' hbe
        have HBS := hid' hbs
        have e1 : (er != 0) = true := by simpa using hc
        clear hbe hbs hc her hx hI hxs hes
        go_wp2_with (go_at_call 15; refine (HE.out _).mono ?_; rintro e w2 ⟨rfl, hB2⟩)
        go_ret2
        exact ⟨by rw [HBE.out, HBS.out] <;> rfl, bel_then HL1.out hB2⟩
    · have hall : l.take i = l := List.take_of_length_le (by rw [← HN.out]; omega)
      have hbe : bErr l = 0 := bErr_ok (by have := HOK.out; rw [hall] at this; exact this)
      have hbs : bEnc l = bCat l := by unfold bEnc; rw [if_pos hbe]
      have HBE := hid' hbe
      have HBS := hid' hbs
      have h1 := HB.out
      rw [hall, bC_bytes] at h1
      have HS := hid' (fun W (hW : IsB w.heap.size w.heap.size (Lib.byteCells (bl (bCat l))) W) (hb : w.heap.size ≤ W.heap.size) => Try.Builder_String_any_k w.heap.size w.heap.size (bl (bCat l)) W hW hb)
      have H1 := hid' h1
      rw [bl_bytes] at HS
      clear hall hbe hbs h1
      go_wp2_with fail
      refine (HS.out _ H1.out hws).mono ?_
      rintro e w2 ⟨rfl, -, hb2, -⟩
      go_wp2
      go_ret2
      exact ⟨by rw [HBE.out, HBS.out] <;> rfl, HL.out.trans hb2⟩
def fTime (r : Rec) : Value := .int .i64 r.2.1
end Go.Proofs.Yteifpdpppndipaa
