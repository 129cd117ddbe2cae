
/-
  Goroutine 0 beside leavers: the first frame, and its return.
  Conditions: stated lemma by lemma.
-/
import Derived.Test.YtboiolnnhmlieaaGc15
import Derived.Test.YtboiolnnhmlieaaGb19
namespace Go.Proofs.Ytboiolnnhmlieaa.Gang
open Go.Conc Go.ConcN Go.RowKit Go.Conc.Lib Go.ConcR.Gen Go.ConcN.Gen
set_option linter.unusedVariables false
set_option linter.unusedSimpArgs false
section
variable {P : Program} {X : Cx}
/-- the first frame's return -/
theorem Run.end1 {b : Frame} {a : Act} {todo : List Item} {w : World} {t : Tmp} {fn : Func} (hX : X.d = 0) (hn : b.kind = .normal) (hd : a.defers = []) (hf : P.funcs[b.fn]? = some fn) (hr : fn.results = #[.tmp t]) (hi : P.inits.idxOf? b.fn = none) (hP : ∀ w₁, AtRel w w₁ → X.Post (a.tmps.getD t undef) w₁) :
    Run P X (G { b.at a todo with mode := .returning } []) w := by
  refine Run.done hX rfl (fun w₁ h₁ => ⟨#[], ?_, by simp, hP w₁ h₁⟩)
  simp [G, stepG, unwind, doReturn, Frame.at, hn, hd, hf, results, hr, seen, GStep.after]
  unfold Go.unwind
  simp [doReturn, hf, hr, results, hi, seen_none, GStep.after]
/-- the start -/
theorem Run.start {Post : Value → World → Prop} {g : Goroutine} {W : World} (h : Run P ⟨Post, fun l => l.isMemory = false, W.heap.size, 0, 0⟩ g W) : Ends P Post #[g] W none #[] := by
  refine h W (atRel_refl _) _ _ _ ⟨rfl, rfl, ⟨_, leavers_one P g⟩, ?_⟩
  exact ⟨fun said => by rintro ⟨i, j, _, ⟨a, b, ha, _⟩, _⟩; simp [Trace.act?] at ha, fun i a ha => by simp [touchAt, Trace.act?] at ha, fun i g hg => by simp [Trace.g?] at hg, rfl, by simp, fun i op x hi => by simp at hi, fun i op hi => by simp at hi, fun l hl => hl⟩
/-- the context at the start -/
def top (Post : Value → World → Prop) (W : World) : Cx := ⟨Post, fun l => l.isMemory = false, W.heap.size, 0, 0⟩
theorem top_ok (Post : Value → World → Prop) (W : World) : (top Post W).ok W := ⟨rfl, (fun b _ o h => by cases h), Nat.le_refl _⟩
theorem top_mem (Post : Value → World → Prop) (W : World) : ∀ l : Loc, l.isMemory = false → (top Post W).Sh l := fun _ h => h
theorem top_free (Post : Value → World → Prop) {W : World} {b : Nat} (h : b < W.heap.size) : (top Post W).free b := ⟨h, (fun o h => by cases h)⟩
end
end Go.Proofs.Ytboiolnnhmlieaa.Gang
