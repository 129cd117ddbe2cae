/-
  Entries as an argument, the closer bound of how many.
  No condition.
-/
import Derived.Test.YtdladjgdhnkkcaaTrA
namespace Go.Proofs.Ytdladjgdhnkkcaa
open Go.ChangeShapes Go.WideShapes Go.ChangeAt Go.RowKit Go.Deep
set_option linter.unusedVariables false

set_option maxRecDepth 100000 in
/-- entries as an argument -/
theorem entries_arg2 {H : Type} {enc : TypeId × Value → H} {w : World} {base b0 : Nat} {held : Bool} {v : Value} {d : DataW H} {p : List MemPlace}
    (hv : Value.okWide Try.prog w .any b0 22 v) (h : DataW.Trod enc Try.prog w base (fun _ => true) held 22 v d p) (hw : (d.weights Try.prog 22).all (· ≤ reachBytes) = true) :
    ∃ A es cap, v = .slice A (List.length es) cap ∧ List.length es ≤ cap ∧ cap ≤ 6000000000000 ∧ RdE w A es := by
  obtain ⟨A, len, cap, rfl, h1, _, h2, h4⟩ := open_arg_slice (n := 2) (ts := [2, 9]) Try.underlying22 (by kernel_rfl) (by kernel_rfl) (by simp) hv h hw
  obtain ⟨es, rfl, hR⟩ := of_elems h1 h4
  refine ⟨A, es, cap, rfl, h1, by rw [show Try.prog.bytesOf 32 = 24 from by kernel_rfl] at h2; unfold reachBytes at h2; omega, hR⟩
end Go.Proofs.Ytdladjgdhnkkcaa
