/-
  The reference's Fields; what fields that were read are like.
  Conditions: the fields can be read.
-/
import Derived.Test.YtkmhjfileiabeaaCodeS
import Derived.BigQuiet
namespace Go.Proofs.Ytkmhjfileiabeaa
open Go.RowKit
set_option linter.unusedVariables false
set_option linter.unusedSimpArgs false

namespace Code
theorem fd_ok {k : Int} {xs : List Nat} (hx : ∀ x ∈ xs, x < 256) (h : (fd k xs).2.2 = 0) : -9223372036854775808 ≤ (fd k xs).1.2.1 ∧ (fd k xs).1.2.1 ≤ 9223372036854775807 := by
  unfold fd at h ⊢
  by_cases hk : k ≠ 1 ∧ k ≠ 2 ∧ k ≠ 3
  · rw [if_pos hk] at h; simp at h
  · rw [if_neg hk] at h ⊢
    rcases ht : tk 0 0 xs with ⟨v, s, e⟩
    rw [ht] at h
    simp only at h ⊢
    by_cases he : e = 0
    · subst he
      have hv := (tk_inv0 hx ht).2.2
      rw [if_neg (by simp)] at h ⊢
      split
      · split
        · simp
        · simp only; omega
      · split
        · simp only
          unfold uz
          split <;> omega
        · split
          · simp
          · split <;> simp
    · rw [if_pos he] at h
      exact absurd h he
theorem dec_ok : ∀ {ks : List Int} {xs : List Nat} {l : List Fi}, (∀ x ∈ xs, x < 256) → dec ks xs = (l, 0) → ok l ∧ l.length ≤ xs.length
  | [], xs, l, hx, h => by
    unfold dec at h
    split at h
    · injection h with h _
      subst h
      exact ⟨fun f hf => by simp at hf, Nat.zero_le _⟩
    · simp at h
  | k :: ks, xs, l, hx, h => by
    unfold dec at h
    by_cases he : (fd k xs).2.2 = 0
    · rw [if_neg (by omega)] at h
      rcases hd : dec ks (xs.drop (fd k xs).2.1) with ⟨l2, e2⟩
      rw [hd] at h
      simp only at h
      by_cases he2 : e2 = 0
      · subst he2
        rw [if_neg (by simp)] at h
        injection h with h _
        subst h
        obtain ⟨i1, i2⟩ := dec_ok (fun x h => hx x (List.mem_of_mem_drop h)) hd
        have hs := fd_size k xs hx he
        rw [List.length_drop] at i2
        refine ⟨fun f hf => ?_, by rw [List.length_cons]; omega⟩
        rcases List.mem_cons.1 hf with rfl | hf
        · exact fd_ok hx he
        · exact i1 f hf
      · rw [if_pos he2] at h
        injection h with _ h
        exact absurd h he2
    · rw [if_pos he] at h
      injection h with _ h
      exact absurd h he
end Code

set_option maxHeartbeats 2000000 in
theorem rfields_calls (A B : Option Addr) (cap cap' : Nat) (fs : List Fi) (w : World) (hR : Hid (RdF w A fs)) (hM : Hid (RdF w B fs)) (hlen : fs.length ≤ 9223372036854775807) :
    Calls Try.prog 25 #[.slice A fs.length cap, .slice B fs.length cap'] w fun e w' => e = .returned (.bool true) ∧ Below w.heap.size w w' := by
  go_enter Try.func25, Try.ntmps25
  go_wp2_with fail
  go_loopg [5] fs.length (fun g v5 W => Below w.heap.size w W ∧ ∃ k : Nat, v5 = .int .i64 k ∧ k + g = fs.length)
  case atStart => exact ⟨Below.refl _ _, 0, rfl, by omega⟩
  case round =>
    obtain ⟨hb, k, rfl, hkg⟩ := hrel
    by_cases hlt : k < fs.length
    · have hl : (k : Int) < (fs.length : Int) := by omega
      have HG := Lib.hid hkg
      obtain ⟨b1, o1, rfl, h1, p1, p2, p3⟩ := hR.out k hlt
      obtain ⟨b2, o2, rfl, h2, q1, q2, q3⟩ := hM.out k hlt
      replace p1 := (hb.cell (p := ⟨b1, o1 + k * 3, none⟩) h1).trans p1
      replace p2 := (hb.cell (p := ⟨b1, o1 + k * 3 + 1, none⟩) h1).trans p2
      replace p3 := (hb.cell (p := ⟨b1, o1 + k * 3 + 2, none⟩) h1).trans p3
      replace q1 := (hb.cell (p := ⟨b2, o2 + k * 3, none⟩) h2).trans q1
      replace q2 := (hb.cell (p := ⟨b2, o2 + k * 3 + 1, none⟩) h2).trans q2
      replace q3 := (hb.cell (p := ⟨b2, o2 + k * 3 + 2, none⟩) h2).trans q3
      generalize fs.getD k default = f at *
      obtain ⟨kd, n, s⟩ := f
      simp only at p1 p2 p3 q1 q2 q3
      have hg : 0 < gk := by omega
      clear hkg
      go_wp2_with fail
      go_quiet (fail)
      go_wp2_with fail
      go_roundg (gk - 1)
      case rel => exact ⟨bel_drewN hb _, k + 1, by go_num, by have := HG.out; omega⟩
      case measure => omega
    · have hl : ¬ (k : Int) < (fs.length : Int) := by omega
      clear hkg
      go_wp2_with fail
      go_ret
      exact ⟨rfl, hb⟩
end Go.Proofs.Ytkmhjfileiabeaa
