/-
  More small lemmas: 'Below' from call to call.
  Conditions: stated lemma by lemma.
-/
import Derived.Test.YtheocdfccdpmbaaKit2
namespace Go.Proofs.Ytheocdfccdpmbaa
open Go.RowKit
set_option linter.unusedVariables false
section
variable {w W W' : World}
theorem bel_tr (h : Below w.heap.size w W) (hb : Below W.heap.size W W') : Below w.heap.size w W' := h.trans (hb.mono h.size)
theorem bel_al (h : Below w.heap.size w W) {o : Obj} (hb : Below (W.alloc o).heap.size (W.alloc o) W') : Below w.heap.size w W' := bel_tr (h.alloc h.size o) hb
theorem bel_new (h : Below w.heap.size w W) (o : Obj) : Below w.heap.size w (W.alloc o) := h.alloc h.size o
theorem bel_set (h : Below w.heap.size w W) {g : Nat} (hg : w.heap.size ≤ g) (i : Nat) (v : Value) : Below w.heap.size w (W.setCell ⟨g, i, none⟩ v) := h.setCell hg v
end
theorem in_ok {S : World → Prop} {w' : World} (h : ∃ x : InS S, w' = x.val) : S w' := by obtain ⟨x, rfl⟩ := h; exact x.ok
end Go.Proofs.Ytheocdfccdpmbaa
