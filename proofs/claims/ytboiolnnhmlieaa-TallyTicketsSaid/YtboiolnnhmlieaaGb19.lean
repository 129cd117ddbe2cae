
/-
  What Spread leaves, in plain numbers: where no number is below nought nor great, no sum wraps.
  Conditions: stated lemma by lemma.
-/
import Derived.Test.YtboiolnnhmlieaaGb11
namespace Go.Proofs.Ytboiolnnhmlieaa.Gang
set_option linter.unusedVariables false
set_option linter.unusedSimpArgs false
/-- numbers from 0 to 2^30 -/
def Small (st : List (Nat × Int)) : Prop := ∀ s ∈ st, 0 ≤ s.2 ∧ s.2 ≤ 1073741824
theorem Small.tail {s : Nat × Int} {st : List (Nat × Int)} (h : Small (s :: st)) : Small st := fun x hx => h x (List.mem_cons_of_mem _ hx)
theorem lsum_bound (c : Nat) : ∀ {st : List (Nat × Int)}, Small st → 0 ≤ lsum c st ∧ lsum c st ≤ st.length * 1073741824
  | [], _ => by simp [lsum]
  | s :: st, h => by
    have := lsum_bound c h.tail
    have h1 := h s (List.mem_cons_self ..)
    rw [lsum, List.length_cons]
    split <;> omega
theorem lsum_ge (c : Nat) : ∀ {st : List (Nat × Int)}, Small st → ∀ s ∈ st, s.1 = c → s.2 ≤ lsum c st
  | [], _, s, hs, _ => by cases hs
  | x :: st, h, s, hs, e => by
    have h1 := h x (List.mem_cons_self ..)
    have h2 := lsum_bound c h.tail
    rw [lsum]
    rcases List.mem_cons.1 hs with rfl | hs
    · rw [if_pos e]; omega
    · have := lsum_ge c h.tail s hs e
      split <;> omega
theorem lmax_snoc (s : Nat × Int) : ∀ (l : List (Nat × Int)) (m : Int), lmax m (l ++ [s]) = if lmax m l < s.2 then s.2 else lmax m l
  | [], m => rfl
  | x :: l, m => by
    show lmax _ (l ++ [s]) = _
    rw [lmax_snoc s l]
    rfl
theorem spGoal_small {st : List (Nat × Int)} (h : Small st) (hl : st.length ≤ 4294967296) (c : Nat) : spGoal st ⟨fun _ => 0, 0⟩ c = lsum c st := by
  have := lsum_bound c h
  show w64 (0 + lsum c st) = _
  unfold w64
  omega
end Go.Proofs.Ytboiolnnhmlieaa.Gang
