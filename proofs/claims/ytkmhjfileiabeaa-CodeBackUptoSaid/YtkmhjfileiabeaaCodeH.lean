/-
  Contracts of put and of the reference's Put once more: what of the memory that was there stays.
  Conditions: as in Code1.
-/
import Derived.Test.YtkmhjfileiabeaaCodeE
namespace Go.Proofs.Ytkmhjfileiabeaa
open Go.RowKit
set_option linter.unusedVariables false

/-- since w nothing but the block that v owns has changed; v0 owns that one or a new one -/
def Kept8 (w wr : World) (v v0 : Value) : Prop := w.grownBy wr v.ownBlock ∧ (v0.ownBlock = v.ownBlock ∨ ∃ r, v0.ownBlock = some r ∧ w.heap.size ≤ r)
theorem Kept8.refl (w : World) (v : Value) : Kept8 w w v v := ⟨World.grownBy.refl w _, .inl rfl⟩
theorem Kept8.step {w wr w2 : World} {v v0 v2 : Value} {o : Obj} (h : Kept8 w wr v v0) (hg : (wr.alloc o).grownBy w2 v0.ownBlock) (hx : v2.ownBlock = v0.ownBlock ∨ v2.ownBlock = some (wr.alloc o).heap.size) : Kept8 w w2 v v2 := by
  have hb := bel_new (Below.refl wr.heap.size wr) o
  have hs := h.1.size
  have hs2 := hb.size
  refine ⟨⟨hg.os.trans (hb.os.trans h.1.os), hg.tape.trans (hb.tape.trans h.1.tape), hg.output.trans (hb.output.trans h.1.output), by have := hg.size; omega, fun k hk hne => ?_⟩, ?_⟩
  · have h1 : some k ≠ v0.ownBlock := by
      rcases h.2 with e | ⟨r, e, hr⟩
      · rw [e]; exact hne
      · rw [e]
        intro e2
        injection e2 with e2
        omega
    exact (hg.block k (by omega) h1).trans ((hb.block k (by omega)).trans (h.1.block k hk hne))
  · rcases hx with e | e
    · rw [e]; exact h.2
    · exact .inr ⟨_, e, by omega⟩

set_option maxHeartbeats 1000000 in
theorem put_calls2 (base : Nat) (v : Value) (xs : List Nat) (n : Nat) (w : World) (hn : Hid (n < 2 ^ 64)) (hO : Own8 w base v xs) (hb : base ≤ w.heap.size) (hl : Hid (xs.length ≤ 2 ^ 39)) :
    Calls Try.prog 36 #[v, .int .u64 n] w fun e w' => (∃ v', e = .returned v' ∧ Own8 w' base v' (xs ++ Code.vb n) ∧ Kept8 w w' v v') ∧ Below base w w' := by
  have HO := Lib.hid hO
  clear hO
  go_enter Try.func36, Try.ntmps36
  go_wp2_with fail
  go_loopg [0, 1] n (fun m v0 v1 wr => v1 = .int .u64 m ∧ base ≤ wr.heap.size ∧ Hid (∃ ys, ys ++ Code.vb m = xs ++ Code.vb n ∧ m < 2 ^ 64 ∧ Own8 wr base v0 ys ∧ Below base w wr ∧ Kept8 w wr v v0))
  case atStart => exact ⟨rfl, hb, Lib.hid ⟨xs, rfl, hn.out, HO.out, Below.refl _ _, Kept8.refl _ _⟩⟩
  case round =>
    obtain ⟨rfl, hbw, HI⟩ := hrel
    by_cases hs : gk < 128
    · have hsi : ¬ (128 : Int) ≤ (gk : Int) := by omega
      obtain ⟨ys, h1, h3, h4, h5, h6⟩ := HI.out
      have H6 := Lib.hid h6
      have h2 := put_len hl.out hn.out h1
      have H1 := Lib.hid h1
      have H2 := Lib.hid h2
      have H4 := Lib.hid h4
      have H5 := Lib.hid h5
      clear h1 h2 h3 h4 h5 h6 hs
      have hm : (gk : Int) % 256 = (gk : Int) := by omega
      go_wp2_with (first
        | (at_builtin
           refine wpList_app8 rfl (.tmp 15) (.tmp 18) rfl base _ ys rfl (H4.out.al _) _ 1 [gk] rfl (one8 wr gk (by omega) _ rfl) (by have := H2.out; simp; omega) (by simp; omega) ?_
           intro v2 w2 ho2 hg2 hx2
           have hk2 := Lib.hid (H6.out.step hg2 hx2)
           have hb2 := Lib.hid (Own8.grown (w0 := w) (H4.out.al _) (H5.out.alloc hbw _) (by simp; omega) hg2)))
      go_ret
      refine ⟨⟨_, rfl, ?_, hk2.out⟩, hb2.out⟩
      rw [← H1.out, Code.vb_small (by omega)]
      exact ho2
    · have hsi : (128 : Int) ≤ (gk : Int) := by omega
      obtain ⟨ys, h1, h3, h4, h5, h6⟩ := HI.out
      have H6 := Lib.hid h6
      have h2 := put_len hl.out hn.out h1
      have hor := put_round gk h3
      have H1 := Lib.hid h1
      have H2 := Lib.hid h2
      have H3 := Lib.hid h3
      have H4 := Lib.hid h4
      have H5 := Lib.hid h5
      have HS := Lib.hid hs
      have HOR := Lib.hid hor
      have hm : (gk : Int) / 128 < 18446744073709551616 := by omega
      clear h1 h2 h3 h4 h5 h6 hs hor
      go_wp2_with (first
        | (at_builtin
           refine wpList_app8 rfl (.tmp 7) (.tmp 11) rfl base _ ys rfl (H4.out.al _) _ 1 [128 + gk % 128] rfl (one8 wr (128 + gk % 128) (by omega) _ (by rw [← HOR.out])) (by have := H2.out; simp; omega) (by simp; omega) ?_
           intro v2 w2 ho2 hg2 hx2
           have hk2 := Lib.hid (H6.out.step hg2 hx2)
           have hb2 := Lib.hid (Own8.grown (w0 := w) (H4.out.al _) (H5.out.alloc hbw _) (by simp; omega) hg2)))
      go_roundg (gk / 128)
      case rel =>
        refine ⟨by go_num, by have := hg2.size; simp at this; omega, Lib.hid ⟨ys ++ [128 + gk % 128], ?_, by have := H3.out; omega, ho2, hb2.out, hk2.out⟩⟩
        rw [← H1.out, Code.vb_big HS.out, List.append_assoc]; rfl
      case measure => have := HS.out; omega
set_option maxHeartbeats 1000000 in
theorem rput_calls2 (base : Nat) (v : Value) (xs : List Nat) (n : Nat) (w : World) (hn : Hid (n < 2 ^ 64)) (hO : Own8 w base v xs) (hb : base ≤ w.heap.size) (hl : Hid (xs.length ≤ 2 ^ 39)) :
    Calls Try.prog 37 #[v, .int .u64 n] w fun e w' => (∃ v', e = .returned v' ∧ Own8 w' base v' (xs ++ Code.vb n) ∧ Kept8 w w' v v') ∧ Below base w w' := by
  have HO := Lib.hid hO
  clear hO
  go_enter Try.func37, Try.ntmps37
  go_wp2_with fail
  go_loopg [0, 1] n (fun m v0 v1 wr => v1 = .int .u64 m ∧ base ≤ wr.heap.size ∧ Hid (∃ ys, ys ++ Code.vb m = xs ++ Code.vb n ∧ m < 2 ^ 64 ∧ Own8 wr base v0 ys ∧ Below base w wr ∧ Kept8 w wr v v0))
  case atStart => exact ⟨rfl, hb, Lib.hid ⟨xs, rfl, hn.out, HO.out, Below.refl _ _, Kept8.refl _ _⟩⟩
  case round =>
    obtain ⟨rfl, hbw, HI⟩ := hrel
    by_cases hs : gk < 128
    · have hsi : ¬ (127 : Int) < (gk : Int) := by omega
      obtain ⟨ys, h1, h3, h4, h5, h6⟩ := HI.out
      have H6 := Lib.hid h6
      have h2 := put_len hl.out hn.out h1
      have H1 := Lib.hid h1
      have H2 := Lib.hid h2
      have H4 := Lib.hid h4
      have H5 := Lib.hid h5
      clear h1 h2 h3 h4 h5 h6 hs
      have hm : (gk : Int) % 256 = (gk : Int) := by omega
      go_wp2_with (first
        | (at_builtin
           refine wpList_app8 rfl (.tmp 16) (.tmp 19) rfl base _ ys rfl (H4.out.al _) _ 1 [gk] rfl (one8 wr gk (by omega) _ rfl) (by have := H2.out; simp; omega) (by simp; omega) ?_
           intro v2 w2 ho2 hg2 hx2
           have hk2 := Lib.hid (H6.out.step hg2 hx2)
           have hb2 := Lib.hid (Own8.grown (w0 := w) (H4.out.al _) (H5.out.alloc hbw _) (by simp; omega) hg2)))
      go_ret
      refine ⟨⟨_, rfl, ?_, hk2.out⟩, hb2.out⟩
      rw [← H1.out, Code.vb_small (by omega)]
      exact ho2
    · have hsi : (127 : Int) < (gk : Int) := by omega
      obtain ⟨ys, h1, h3, h4, h5, h6⟩ := HI.out
      have H6 := Lib.hid h6
      have h2 := put_len hl.out hn.out h1
      have hor := rput_round gk h3
      have H1 := Lib.hid h1
      have H2 := Lib.hid h2
      have H3 := Lib.hid h3
      have H4 := Lib.hid h4
      have H5 := Lib.hid h5
      have HS := Lib.hid hs
      have HOR := Lib.hid hor
      have hm : (gk : Int) / 128 < 18446744073709551616 := by omega
      clear h1 h2 h3 h4 h5 h6 hs hor
      go_wp2_with (first
        | (at_builtin
           refine wpList_app8 rfl (.tmp 7) (.tmp 12) rfl base _ ys rfl (H4.out.al _) _ 1 [128 + gk % 128] rfl (one8 wr (128 + gk % 128) (by omega) _ (by rw [← HOR.out])) (by have := H2.out; simp; omega) (by simp; omega) ?_
           intro v2 w2 ho2 hg2 hx2
           have hk2 := Lib.hid (H6.out.step hg2 hx2)
           have hb2 := Lib.hid (Own8.grown (w0 := w) (H4.out.al _) (H5.out.alloc hbw _) (by simp; omega) hg2)))
      go_roundg (gk / 128)
      case rel =>
        refine ⟨by go_num, by have := hg2.size; simp at this; omega, Lib.hid ⟨ys ++ [128 + gk % 128], ?_, by have := H3.out; omega, ho2, hb2.out, hk2.out⟩⟩
        rw [← H1.out, Code.vb_big HS.out, List.append_assoc]; rfl
      case measure => have := HS.out; omega
end Go.Proofs.Ytkmhjfileiabeaa
