/-
  Quorum: the range of what is told.
  Conditions: stated lemma by lemma.
-/
import Derived.Test.YtdladjgdhnkkcaaQR
import Derived.Test.YtdladjgdhnkkcaaRow2
namespace Go.Proofs.Ytdladjgdhnkkcaa
set_option linter.unusedVariables false
namespace Qm
theorem at_range {m : List (Int × Int)} (h : ∀ x ∈ m, -9223372036854775808 ≤ x.2 ∧ x.2 ≤ 9223372036854775807) (id : Int) : -9223372036854775808 ≤ at_ m id ∧ at_ m id ≤ 9223372036854775807 := by
  unfold at_
  have : ∀ (m : List (Int × Int)) (n : Int), (∀ x ∈ m, -9223372036854775808 ≤ x.2 ∧ x.2 ≤ 9223372036854775807) → (-9223372036854775808 ≤ n ∧ n ≤ 9223372036854775807) →
      -9223372036854775808 ≤ m.foldl (fun n x => if x.1 = id then x.2 else n) n ∧ m.foldl (fun n x => if x.1 = id then x.2 else n) n ≤ 9223372036854775807 := by
    intro m
    induction m with
    | nil => intro n _ hn; exact hn
    | cons x m ih =>
      intro n h hn
      rw [List.foldl_cons]
      refine ih _ (fun y hy => h y (by simp [hy])) ?_
      split
      · exact h x (by simp)
      · exact hn
  exact this m 0 h (by omega)
theorem reached_range {l : List Int} {m : List (Int × Int)} (h : ∀ x ∈ m, -9223372036854775808 ≤ x.2 ∧ x.2 ≤ 9223372036854775807) : -9223372036854775808 ≤ reached l m ∧ reached l m ≤ 9223372036854775807 := by
  rcases hc : chk l with _ | _
  · rw [reached_none hc]; omega
  · have h0 : 0 < (l.map (at_ m)).length := by rw [List.length_map]; exact (chk_asc hc).2.1
    obtain ⟨m1, _, _⟩ := mid_one h0
    rw [List.length_map] at m1
    unfold reached
    rw [if_pos hc]
    obtain ⟨c, _, e⟩ := List.mem_map.1 m1
    rw [← e]
    exact at_range h c
end Qm
end Go.Proofs.Ytdladjgdhnkkcaa
