/-
  Rows of bytes of the call's own, further: where one lies, reading and writing a byte of it.
  Conditions: stated lemma by lemma.
-/
import Derived.Test.YtkmhjfileiabeaaApp
namespace Go.Proofs.Ytkmhjfileiabeaa
open Go.RowKit
set_option linter.unusedVariables false
theorem Own8.block {w : World} {base : Nat} {v : Value} {xs : List Nat} (h : Own8 w base v xs) (h0 : 0 < xs.length) :
    ∃ g cap, v = .slice (some ⟨g, 0, none⟩) xs.length cap ∧ base ≤ g ∧ xs.length ≤ cap := by
  rcases h.1.2 with ⟨rfl, e⟩ | ⟨g, cap, cur, rfl, h1, h2, h3, _⟩
  · omega
  · exact ⟨g, cap, rfl, h1, h3⟩
theorem Own8.at_ {w : World} {base g n cap : Nat} {xs : List Nat} (h : Own8 w base (.slice (some ⟨g, 0, none⟩) n cap) xs) (j : Nat) (hj : j < xs.length) :
    w.cell? ⟨g, j, none⟩ = some (.int .u8 (xs.getD j 0 : Nat)) ∧ w.frozen? ⟨g, j, none⟩ = false ∧ xs.getD j 0 < 256 := by
  have hn : n = xs.length := by
    rcases h.1.2 with ⟨e, _⟩ | ⟨g', cap', cur, e, _⟩
    · cases e
    · injection e
  subst hn
  refine ⟨?_, h.1.frozenAt j, ?_⟩
  · rw [h.1.cellAt j (by omega)]
    simp [hj, List.getD, cell8]
  · simp only [List.getD, List.getElem?_eq_getElem hj, Option.getD_some]
    exact h.2 _ (List.getElem_mem hj)
theorem Own8.put {w : World} {base g n cap : Nat} {xs : List Nat} (h : Own8 w base (.slice (some ⟨g, 0, none⟩) n cap) xs) (j y : Nat) (hy : y < 256) :
    Own8 (w.setCell ⟨g, j, none⟩ (.int .u8 y)) base (.slice (some ⟨g, 0, none⟩) n cap) (xs.set j y) := by
  have hn : n = xs.length := by
    rcases h.1.2 with ⟨e, _⟩ | ⟨g', cap', cur, e, _⟩
    · cases e
    · injection e
  subst hn
  refine ⟨?_, fun x hx => ?_⟩
  · have := (h.1.stored j (cell8 y)).1
    rw [List.map_set, List.length_set]
    exact this
  · rcases List.mem_or_eq_of_mem_set hx with hx | rfl
    · exact h.2 _ hx
    · exact hy
end Go.Proofs.Ytkmhjfileiabeaa
