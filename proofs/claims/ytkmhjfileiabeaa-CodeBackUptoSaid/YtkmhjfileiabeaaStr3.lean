/-
  A string made of bytes that can be read.
  No condition.
-/
import Derived.Test.YtkmhjfileiabeaaCodeD
import Derived.Laws.BytesArg
namespace Go.Proofs.Ytkmhjfileiabeaa
open Go.RowKit
set_option linter.unusedVariables false

theorem conv8 {w : World} {A : Option Addr} {xs : List Nat} (h : Rd8 w A xs) (c : Nat) : (convert 22 9 (.slice A xs.length c)).run Try.prog w = .ok (.string (bs xs)) w := by
  rcases Nat.eq_zero_or_pos xs.length with h0 | h0
  · have hx : xs = [] := List.eq_nil_of_length_eq_zero h0
    subst hx
    rcases A with _ | ⟨b, off, spot⟩
    · have := run_convert_bytes_nil (P := Try.prog) w 22 5 Try.underlying22 Try.underlying5 0 c 9 Try.underlying9
      exact this
    · rw [show ([] : List Nat).length = 0 from rfl, run_convert_bytes_string w 22 9 5 _ 0 c Try.underlying22 Try.underlying5 Try.underlying9,
        run_bytesToString w _ 0 c [] (by simpa using run_loadCells_list (P := Try.prog) w ⟨b, off, spot⟩ [] (fun j v hj => by cases hj))]
      rfl
  · obtain ⟨b, off, rfl, _, _, _⟩ := h 0 h0
    have := run_convert_bytes_arg (P := Try.prog) w 22 5 Try.underlying22 Try.underlying5 b off xs.length c (xs.map fun (x : Nat) => (x : Int)) (by simp) (fun i hi => by
      obtain ⟨b', off', e, _, _, hc⟩ := h i hi
      injection e with e
      injection e with e1 e2 _
      subst e1; subst e2
      rw [hc]
      simp [List.getD, hi]) 9 Try.underlying9
    rw [this]
    have : strOfNums (xs.map fun (x : Nat) => (x : Int)) = bs xs := by
      unfold strOfNums bs
      simp only [List.map_map]
      rfl
    rw [this]

theorem Rd8.drop {w : World} {b off : Nat} {xs : List Nat} (h : Rd8 w (some ⟨b, off, none⟩) xs) (k : Nat) : Rd8 w (some ⟨b, off + k, none⟩) (xs.drop k) := fun i hi => by
  have hi' : k + i < xs.length := by rw [List.length_drop] at hi; omega
  obtain ⟨b', off', e, h1, h2, h3⟩ := h (k + i) hi'
  injection e with e
  injection e with e1 e2 _
  subst e1; subst e2
  have hg : (xs.drop k).getD i 0 = xs.getD (k + i) 0 := by simp [List.getD]
  exact ⟨b, off + k, rfl, h1, by rw [hg]; exact h2, by rw [hg, show off + k + i = off + (k + i) from by omega]; exact h3⟩
theorem Rd8.take {w : World} {A : Option Addr} {xs : List Nat} (h : Rd8 w A xs) (k : Nat) : Rd8 w A (xs.take k) := fun i hi => by
  have hi' : i < xs.length ∧ i < k := by rw [List.length_take] at hi; omega
  obtain ⟨b', off', e, h1, h2, h3⟩ := h i hi'.1
  have hg : (xs.take k).getD i 0 = xs.getD i 0 := by simp [List.getD, hi'.2]
  exact ⟨b', off', e, h1, by rw [hg]; exact h2, by rw [hg]; exact h3⟩
theorem Rd8.lt {w : World} {A : Option Addr} {xs : List Nat} (h : Rd8 w A xs) : ∀ x ∈ xs, x < 256 := fun x hx => by
  obtain ⟨i, hi, e⟩ := List.getElem_of_mem hx
  obtain ⟨_, _, _, _, h, _⟩ := h i hi
  simpa [List.getD, hi, e] using h
theorem Rd8.some {w : World} {A : Option Addr} {xs : List Nat} (h : Rd8 w A xs) (h0 : 0 < xs.length) : ∃ b off, A = some ⟨b, off, none⟩ ∧ b < w.heap.size := by
  obtain ⟨b, off, e, hb, _⟩ := h 0 h0
  exact ⟨b, off, e, hb⟩
end Go.Proofs.Ytkmhjfileiabeaa
