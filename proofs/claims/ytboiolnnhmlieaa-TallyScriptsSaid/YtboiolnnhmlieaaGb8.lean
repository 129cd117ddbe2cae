
/-
  The worker's drawn region: its reads, whichever comes up first, then the tally's add.
  Conditions: stated lemma by lemma.
-/
import Derived.Test.YtboiolnnhmlieaaGb7
namespace Go.Proofs.Ytboiolnnhmlieaa.Gang
open Go.Conc Go.ConcN Go.RowKit Go.Conc.Lib Go.ConcR.Gen Go.ConcN.Gen
set_option linter.unusedVariables false
set_option linter.unusedSimpArgs false

/-- what worker i has of memory: the boxes of t, of the steps, of the count of workers; the steps' cells -/
structure Lent (J : Job Try.prog Tal Lad) (T i : Nat) (bt bs bn ar off cap : Nat) (n : Nat) (st : List (Nat × Int)) (w : World) : Prop where
  still : ∀ b, b = bt ∨ b = bs ∨ b = bn ∨ b = ar → J.Still i b ∧ b < J.Bd ∧ ∀ o, J.L.Rd i (.cell ⟨b, o, none⟩) ∧ ¬ J.L.Sh (.cell ⟨b, o, none⟩)
  t : w.cell? ⟨bt, 0, none⟩ = some (.pointer (some ⟨T, 0, none⟩))
  s : w.cell? ⟨bs, 0, none⟩ = some (.slice (some ⟨ar, off, none⟩) st.length cap)
  n : w.cell? ⟨bn, 0, none⟩ = some (.int .i64 (n : Int))
  c : ∀ j (h : j < st.length), w.cell? ⟨ar, off + j * 2, none⟩ = some (.int .i64 ((st[j]).1 : Int)) ∧ w.cell? ⟨ar, off + j * 2 + 1, none⟩ = some (.int .i64 (st[j]).2)
section
variable {J : Job Try.prog Tal Lad} {T i bt bs bn ar off cap n : Nat} {st : List (Nat × Int)} {w w₁ : World}
theorem Lent.rely (h : Lent J T i bt bs bn ar off cap n st w) (r : J.rely i w w₁) : Lent J T i bt bs bn ar off cap n st w₁ :=
  ⟨h.still, (cell_rely r (h.still bt (by simp)).1).trans h.t, (cell_rely r (h.still bs (by simp)).1).trans h.s, (cell_rely r (h.still bn (by simp)).1).trans h.n,
   fun j hj => ⟨(cell_rely r (h.still ar (by simp)).1).trans (h.c j hj).1, (cell_rely r (h.still ar (by simp)).1).trans (h.c j hj).2⟩⟩
theorem Lent.says (h : Lent J T i bt bs bn ar off cap n st w) {p : Pos Lad} (h1 : 1 ≤ i) (hp : past p = false) {b : Nat} (hb : b = bt ∨ b = bs ∨ b = bn ∨ b = ar) (o : Nat) : J.Says i p ⟨.cell ⟨b, o, none⟩, false, false⟩ :=
  says_read (s := false) h1 hp ((h.still b hb).2.2 o).1 ((h.still b hb).2.2 o).2 (h.still b hb).2.1
end
end Go.Proofs.Ytboiolnnhmlieaa.Gang
