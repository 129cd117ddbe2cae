/-
  Arguments of the laws on wheels: items, times, numbers.
  No condition.
-/
import Derived.Test.YtheocdfccdpmbaaWhE
import Derived.Test.YtheocdfccdpmbaaOpen
namespace Go.Proofs.Ytheocdfccdpmbaa
open Go.ChangeShapes Go.WideShapes Go.ChangeAt Go.RowKit Go.Deep
set_option linter.unusedVariables false
set_option linter.unusedSimpArgs false
section
variable {H : Type} {enc : TypeId × Value → H} {w : World} {base : Nat} {held : Bool}
/-- elements that are read one by one -/
theorem rdL_of {α : Type} [Inhabited α] {L : Lay α} {A : Option Addr} {len cap : Nat} (hlc : len ≤ cap) {G : α → Prop}
    (hx : ∀ i, i < cap → ∃ x : α, G x ∧ ∃ b off, A = some ⟨b, off, none⟩ ∧ b < w.heap.size ∧ ∀ r u, (L.cells x)[r]? = some u → w.cell? ⟨b, off + i * L.k + r, none⟩ = some u) :
    ∃ xs : List α, xs.length = len ∧ RdL L w A xs ∧ ∀ i, i < xs.length → G (xs.getD i default) := by
  have e0 : ∀ i, i < len → ((List.range len).map fun i => if hi : i < cap then (hx i hi).choose else default).getD i default = if hi : i < cap then (hx i hi).choose else default := fun i hi => by
    simp [List.getD, hi]
  refine ⟨(List.range len).map fun i => if hi : i < cap then (hx i hi).choose else default, by simp, fun i hi => ?_, fun i hi => ?_⟩
  · have hi' : i < len := by simpa using hi
    obtain ⟨_, b, off, e, hb, hc⟩ := (hx i (by omega)).choose_spec
    rw [e0 i hi', dif_pos (show i < cap by omega)]
    exact ⟨b, off, e, hb, hc⟩
  · have hi' : i < len := by simpa using hi
    rw [e0 i hi', dif_pos (show i < cap by omega)]
    exact (hx i (by omega)).choose_spec.1
theorem at_list {w : World} {b n : Nat} {vs : List Value} (hc : ∀ j v, vs[j]? = some v → w.cell? ⟨b, n + j, none⟩ = some v) {l : List Value} (hl : l = vs) : ∀ r u, l[r]? = some u → w.cell? ⟨b, n + r, none⟩ = some u := fun r u hu => hc r u (by rw [← hl]; exact hu)
/-- a number of 64 bits -/
def B64 (x : Int) : Prop := -9223372036854775808 ≤ x ∧ x ≤ 9223372036854775807
set_option maxRecDepth 100000 in
/-- items as an argument -/
theorem items_arg {b0 : Nat} {v : Value} {d : DataW H} {p : List MemPlace}
    (hv : Value.okWide Try.prog w .any b0 22 v) (h : DataW.Trod enc Try.prog w base (fun _ => true) held 22 v d p) (hw : (d.weights Try.prog 22).all (· ≤ reachBytes) = true) :
    ∃ A xs cap, v = .slice A (List.length xs) cap ∧ List.length xs ≤ cap ∧ cap ≤ 20000000000000 ∧ RdL layW w A xs ∧ ∀ i, i < xs.length → B64 (xs.getD i default).id ∧ B64 (xs.getD i default).at_ := by
  obtain ⟨A, len, cap, rfl, h1, _, h2, h4⟩ := open_arg_slice (n := 2) (ts := [3, 2]) Try.underlying22 (by kernel_rfl) (by kernel_rfl) (by simp) hv h hw
  obtain ⟨xs, rfl, hR, hG⟩ := rdL_of (L := layW) (w := w) (A := A) h1 (G := fun d => B64 d.id ∧ B64 d.at_) (fun i hi => by
    obtain ⟨b, off, vs, rfl, hb, _, hc, hl⟩ := h4 i hi
    obtain ⟨k, vs, rfl, hk, hl⟩ := leaf_int Try.underlying3 hl
    obtain ⟨n, vs, rfl, hn, hl⟩ := leaf_int Try.underlying2 hl
    obtain rfl := leaf_nil hl
    have hk2 : B64 k := by simp [Lit.wf, IntKind.min, IntKind.max, IntKind.signed, IntKind.bits] at hk; exact hk
    have hn2 : B64 n := by simp [Lit.wf, IntKind.min, IntKind.max, IntKind.signed, IntKind.bits] at hn; exact hn
    exact ⟨⟨k, n⟩, ⟨hk2, hn2⟩, b, off, rfl, hb, at_list hc rfl⟩)
  exact ⟨A, xs, cap, rfl, h1, by rw [show Try.prog.bytesOf 31 = 16 from by kernel_rfl] at h2; unfold reachBytes at h2; omega, hR, hG⟩
set_option maxRecDepth 100000 in
/-- times as an argument -/
theorem times_arg {b0 : Nat} {v : Value} {d : DataW H} {p : List MemPlace}
    (hv : Value.okWide Try.prog w .any b0 23 v) (h : DataW.Trod enc Try.prog w base (fun _ => true) held 23 v d p) (hw : (d.weights Try.prog 23).all (· ≤ reachBytes) = true) :
    ∃ A xs cap, v = .slice A (List.length xs) cap ∧ List.length xs ≤ cap ∧ cap ≤ 20000000000000 ∧ RdL (layI .i64) w A xs := by
  obtain ⟨A, len, cap, rfl, h1, _, h2, h4⟩ := open_arg_slice (n := 1) (ts := [2]) Try.underlying23 (by kernel_rfl) (by kernel_rfl) (by simp) hv h hw
  obtain ⟨xs, rfl, hR, hG⟩ := rdL_of (L := layI .i64) (w := w) (A := A) h1 (G := fun _ => True) (fun i hi => by
    obtain ⟨b, off, vs, rfl, hb, _, hc, hl⟩ := h4 i hi
    obtain ⟨n, vs, rfl, hn, hl⟩ := leaf_int Try.underlying2 hl
    obtain rfl := leaf_nil hl
    exact ⟨n, trivial, b, off, rfl, hb, at_list hc rfl⟩)
  exact ⟨A, xs, cap, rfl, h1, by rw [show Try.prog.bytesOf 2 = 8 from by kernel_rfl] at h2; unfold reachBytes at h2; omega, hR⟩
set_option maxRecDepth 100000 in
/-- numbers as an argument -/
theorem nums_arg {b0 : Nat} {v : Value} {d : DataW H} {p : List MemPlace}
    (hv : Value.okWide Try.prog w .any b0 69 v) (h : DataW.Trod enc Try.prog w base (fun _ => true) held 69 v d p) (hw : (d.weights Try.prog 69).all (· ≤ reachBytes) = true) :
    ∃ A xs cap, v = .slice A (List.length xs) cap ∧ List.length xs ≤ cap ∧ cap ≤ 20000000000000 ∧ RdL (layI .i64) w A xs ∧ ∀ i, i < xs.length → B64 (xs.getD i default) := by
  obtain ⟨A, len, cap, rfl, h1, _, h2, h4⟩ := open_arg_slice (n := 1) (ts := [3]) Try.underlying69 (by kernel_rfl) (by kernel_rfl) (by simp) hv h hw
  obtain ⟨xs, rfl, hR, hG⟩ := rdL_of (L := layI .i64) (w := w) (A := A) h1 (G := fun x => B64 x) (fun i hi => by
    obtain ⟨b, off, vs, rfl, hb, _, hc, hl⟩ := h4 i hi
    obtain ⟨n, vs, rfl, hn, hl⟩ := leaf_int Try.underlying3 hl
    obtain rfl := leaf_nil hl
    have hn2 : B64 n := by simp [Lit.wf, IntKind.min, IntKind.max, IntKind.signed, IntKind.bits] at hn; exact hn
    exact ⟨n, hn2, b, off, rfl, hb, at_list hc rfl⟩)
  exact ⟨A, xs, cap, rfl, h1, by rw [show Try.prog.bytesOf 3 = 8 from by kernel_rfl] at h2; unfold reachBytes at h2; omega, hR, hG⟩
end
/-- an element of items, cell by cell -/
theorem RdL.itm {w : World} {A : Option Addr} {xs : List Itm} (h : RdL layW w A xs) (i : Nat) (hi : i < xs.length) : ∃ b off, A = some ⟨b, off, none⟩ ∧ b < w.heap.size ∧ w.cell? ⟨b, off + i * 2, none⟩ = some (.int .i64 (xs.getD i default).id) ∧ w.cell? ⟨b, off + i * 2 + 1, none⟩ = some (.int .i64 (xs.getD i default).at_) := by
  obtain ⟨b, off, e, hb, hc⟩ := h i hi
  exact ⟨b, off, e, hb, hc 0 _ rfl, hc 1 _ rfl⟩
theorem RdL.num {w : World} {A : Option Addr} {xs : List Int} (h : RdL (layI .i64) w A xs) (i : Nat) (hi : i < xs.length) : ∃ b off, A = some ⟨b, off, none⟩ ∧ b < w.heap.size ∧ w.cell? ⟨b, off + i, none⟩ = some (.int .i64 (xs.getD i default)) := by
  obtain ⟨b, off, e, hb, hc⟩ := h i hi
  have := hc 0 _ rfl
  exact ⟨b, off, e, hb, by simpa [layI] using this⟩
end Go.Proofs.Ytheocdfccdpmbaa
