/-
  A number as bytes, seven bits each: the program's put and the reference's Put onto a row of the call's own.
  Conditions: the number is below 2^64; not more than 2^39 bytes ahead of it.
-/
import Derived.Test.YtkmhjfileiabeaaApp2
namespace Go.Proofs.Ytkmhjfileiabeaa
open Go.RowKit
set_option linter.unusedVariables false

namespace Code
/-- a number's bytes -/
def vb (n : Nat) : List Nat := if h : n < 128 then [n] else (128 + n % 128) :: vb (n / 128)
termination_by n
decreasing_by omega
theorem vb_small {n : Nat} (h : n < 128) : vb n = [n] := by rw [vb, dif_pos h]
theorem vb_big {n : Nat} (h : ¬ n < 128) : vb n = (128 + n % 128) :: vb (n / 128) := by rw [vb, dif_neg h]
theorem vb_len : ∀ (k n : Nat), n < 2 ^ (7 * k + 7) → (vb n).length ≤ k + 1
  | 0, n, h => by rw [vb_small (by simpa using h)]; simp
  | k + 1, n, h => by
    by_cases hs : n < 128
    · rw [vb_small hs]; simp
    · rw [vb_big hs, List.length_cons]
      have := vb_len k (n / 128) (by rw [Nat.div_lt_iff_lt_mul (by decide)]; rw [show 7 * (k + 1) + 7 = (7 * k + 7) + 7 from by omega, Nat.pow_add] at h; omega)
      omega
theorem vb_pos (n : Nat) : 0 < (vb n).length := by
  by_cases hs : n < 128
  · rw [vb_small hs]; simp
  · rw [vb_big hs]; simp
end Code

theorem or128 (x : Nat) (h : x < 256) : bits .or .u8 (x : Int) 128 = ((128 + x % 128 : Nat) : Int) := by
  have : ∀ x : Fin 256, bits .or .u8 ((x : Nat) : Int) 128 = ((128 + (x : Nat) % 128 : Nat) : Int) := by decide +kernel
  exact this ⟨x, h⟩
theorem one8 (w : World) (x : Nat) (hx : x < 256) (v : Value) (hv : v = .int .u8 (x : Nat)) : Rd8 (w.alloc (.cells #[v] 5)) (some ⟨w.heap.size, 0, none⟩) [x] :=
  rd8_new w _ _ [x] (by simpa using hx) _ (by rw [hv]; simp)
/-- a block made between: the row is kept -/
theorem Own8.al {w : World} {base : Nat} {v : Value} {xs : List Nat} (h : Own8 w base v xs) (o : Obj) : Own8 (w.alloc o) base v xs := h.kept ((Below.refl _ _).alloc (Nat.le_refl _) _)

theorem put_round (n : Nat) (hn : n < 2 ^ 64) : bits .or .u8 ((n : Int) % 256) 128 = ((128 + n % 128 : Nat) : Int) := by
  have := or128 (n % 256) (Nat.mod_lt _ (by decide))
  rw [show (n : Int) % 256 = ((n % 256 : Nat) : Int) from by omega, this]
  omega

theorem put_len {xs ys : List Nat} {m n : Nat} (hl : xs.length ≤ 2 ^ 39) (hn : n < 2 ^ 64) (h : ys ++ Code.vb m = xs ++ Code.vb n) : ys.length ≤ 2 ^ 39 + 100 := by
  have h1 := congrArg List.length h
  rw [List.length_append, List.length_append] at h1
  have h2 := Code.vb_len 9 n (by omega)
  omega
theorem rput_round (n : Nat) (hn : n < 2 ^ 64) : 128 + (n : Int) % 128 = ((128 + n % 128 : Nat) : Int) := by omega

set_option maxHeartbeats 1000000 in
theorem put_calls (base : Nat) (v : Value) (xs : List Nat) (n : Nat) (w : World) (hn : Hid (n < 2 ^ 64)) (hO : Own8 w base v xs) (hb : base ≤ w.heap.size) (hl : Hid (xs.length ≤ 2 ^ 39)) :
    Calls Try.prog 36 #[v, .int .u64 n] w fun e w' => (∃ v', e = .returned v' ∧ Own8 w' base v' (xs ++ Code.vb n)) ∧ Below base w w' := by
  have HO := Lib.hid hO
  clear hO
  go_enter Try.func36, Try.ntmps36
  go_wp2_with fail
  go_loopg [0, 1] n (fun m v0 v1 wr => v1 = .int .u64 m ∧ base ≤ wr.heap.size ∧ Hid (∃ ys, ys ++ Code.vb m = xs ++ Code.vb n ∧ m < 2 ^ 64 ∧ Own8 wr base v0 ys ∧ Below base w wr))
  case atStart => exact ⟨rfl, hb, Lib.hid ⟨xs, rfl, hn.out, HO.out, Below.refl _ _⟩⟩
  case round =>
    obtain ⟨rfl, hbw, HI⟩ := hrel
    by_cases hs : gk < 128
    · have hsi : ¬ (128 : Int) ≤ (gk : Int) := by omega
      obtain ⟨ys, h1, h3, h4, h5⟩ := HI.out
      have h2 := put_len hl.out hn.out h1
      have H1 := Lib.hid h1
      have H2 := Lib.hid h2
      have H4 := Lib.hid h4
      have H5 := Lib.hid h5
      clear h1 h2 h3 h4 h5 hs
      have hm : (gk : Int) % 256 = (gk : Int) := by omega
      go_wp2_with (first
        | (at_builtin
           refine wpList_app8 rfl (.tmp 15) (.tmp 18) rfl base _ ys rfl (H4.out.al _) _ 1 [gk] rfl (one8 wr gk (by omega) _ rfl) (by have := H2.out; simp; omega) (by simp; omega) ?_
           intro v2 w2 ho2 hg2 _
           have hb2 := Lib.hid (Own8.grown (w0 := w) (H4.out.al _) (H5.out.alloc hbw _) (by simp; omega) hg2)))
      go_ret
      refine ⟨⟨_, rfl, ?_⟩, hb2.out⟩
      rw [← H1.out, Code.vb_small (by omega)]
      exact ho2
    · have hsi : (128 : Int) ≤ (gk : Int) := by omega
      obtain ⟨ys, h1, h3, h4, h5⟩ := HI.out
      have h2 := put_len hl.out hn.out h1
      have hor := put_round gk h3
      have H1 := Lib.hid h1
      have H2 := Lib.hid h2
      have H3 := Lib.hid h3
      have H4 := Lib.hid h4
      have H5 := Lib.hid h5
      have HS := Lib.hid hs
      have HOR := Lib.hid hor
      have hm : (gk : Int) / 128 < 18446744073709551616 := by omega
      clear h1 h2 h3 h4 h5 hs hor
      go_wp2_with (first
        | (at_builtin
           refine wpList_app8 rfl (.tmp 7) (.tmp 11) rfl base _ ys rfl (H4.out.al _) _ 1 [128 + gk % 128] rfl (one8 wr (128 + gk % 128) (by omega) _ (by rw [← HOR.out])) (by have := H2.out; simp; omega) (by simp; omega) ?_
           intro v2 w2 ho2 hg2 _
           have hb2 := Lib.hid (Own8.grown (w0 := w) (H4.out.al _) (H5.out.alloc hbw _) (by simp; omega) hg2)))
      go_roundg (gk / 128)
      case rel =>
        refine ⟨by go_num, by have := hg2.size; simp at this; omega, Lib.hid ⟨ys ++ [128 + gk % 128], ?_, by have := H3.out; omega, ho2, hb2.out⟩⟩
        rw [← H1.out, Code.vb_big HS.out, List.append_assoc]; rfl
      case measure => have := HS.out; omega
set_option maxHeartbeats 1000000 in
theorem rput_calls (base : Nat) (v : Value) (xs : List Nat) (n : Nat) (w : World) (hn : Hid (n < 2 ^ 64)) (hO : Own8 w base v xs) (hb : base ≤ w.heap.size) (hl : Hid (xs.length ≤ 2 ^ 39)) :
    Calls Try.prog 37 #[v, .int .u64 n] w fun e w' => (∃ v', e = .returned v' ∧ Own8 w' base v' (xs ++ Code.vb n)) ∧ Below base w w' := by
  have HO := Lib.hid hO
  clear hO
  go_enter Try.func37, Try.ntmps37
  go_wp2_with fail
  go_loopg [0, 1] n (fun m v0 v1 wr => v1 = .int .u64 m ∧ base ≤ wr.heap.size ∧ Hid (∃ ys, ys ++ Code.vb m = xs ++ Code.vb n ∧ m < 2 ^ 64 ∧ Own8 wr base v0 ys ∧ Below base w wr))
  case atStart => exact ⟨rfl, hb, Lib.hid ⟨xs, rfl, hn.out, HO.out, Below.refl _ _⟩⟩
  case round =>
    obtain ⟨rfl, hbw, HI⟩ := hrel
    by_cases hs : gk < 128
    · have hsi : ¬ (127 : Int) < (gk : Int) := by omega
      obtain ⟨ys, h1, h3, h4, h5⟩ := HI.out
      have h2 := put_len hl.out hn.out h1
      have H1 := Lib.hid h1
      have H2 := Lib.hid h2
      have H4 := Lib.hid h4
      have H5 := Lib.hid h5
      clear h1 h2 h3 h4 h5 hs
      have hm : (gk : Int) % 256 = (gk : Int) := by omega
      go_wp2_with (first
        | (at_builtin
           refine wpList_app8 rfl (.tmp 16) (.tmp 19) rfl base _ ys rfl (H4.out.al _) _ 1 [gk] rfl (one8 wr gk (by omega) _ rfl) (by have := H2.out; simp; omega) (by simp; omega) ?_
           intro v2 w2 ho2 hg2 _
           have hb2 := Lib.hid (Own8.grown (w0 := w) (H4.out.al _) (H5.out.alloc hbw _) (by simp; omega) hg2)))
      go_ret
      refine ⟨⟨_, rfl, ?_⟩, hb2.out⟩
      rw [← H1.out, Code.vb_small (by omega)]
      exact ho2
    · have hsi : (127 : Int) < (gk : Int) := by omega
      obtain ⟨ys, h1, h3, h4, h5⟩ := HI.out
      have h2 := put_len hl.out hn.out h1
      have hor := rput_round gk h3
      have H1 := Lib.hid h1
      have H2 := Lib.hid h2
      have H3 := Lib.hid h3
      have H4 := Lib.hid h4
      have H5 := Lib.hid h5
      have HS := Lib.hid hs
      have HOR := Lib.hid hor
      have hm : (gk : Int) / 128 < 18446744073709551616 := by omega
      clear h1 h2 h3 h4 h5 hs hor
      go_wp2_with (first
        | (at_builtin
           refine wpList_app8 rfl (.tmp 7) (.tmp 12) rfl base _ ys rfl (H4.out.al _) _ 1 [128 + gk % 128] rfl (one8 wr (128 + gk % 128) (by omega) _ (by rw [← HOR.out])) (by have := H2.out; simp; omega) (by simp; omega) ?_
           intro v2 w2 ho2 hg2 _
           have hb2 := Lib.hid (Own8.grown (w0 := w) (H4.out.al _) (H5.out.alloc hbw _) (by simp; omega) hg2)))
      go_roundg (gk / 128)
      case rel =>
        refine ⟨by go_num, by have := hg2.size; simp at this; omega, Lib.hid ⟨ys ++ [128 + gk % 128], ?_, by have := H3.out; omega, ho2, hb2.out⟩⟩
        rw [← H1.out, Code.vb_big HS.out, List.append_assoc]; rfl
      case measure => have := HS.out; omega
end Go.Proofs.Ytkmhjfileiabeaa
