/-
  Arguments of the laws on logs: entries, a log.
  No condition.
-/
import Derived.Test.YtdladjgdhnkkcaaTrM
namespace Go.Proofs.Ytdladjgdhnkkcaa
open Go.ChangeShapes Go.WideShapes Go.ChangeAt Go.RowKit Go.Deep
set_option linter.unusedVariables false

theorem of_elems {w : World} {A : Option Addr} {len cap : Nat} {H : Type} {enc : TypeId × Value → H} {base : Nat} {held : Bool} (hlc : len ≤ cap)
    (h4 : ∀ i, i < cap → ∃ b off vs, A = some ⟨b, off, none⟩ ∧ b < w.heap.size ∧ vs.length = [2, 9].length ∧ (∀ j v, vs[j]? = some v → w.cell? ⟨b, off + i * [2, 9].length + j, none⟩ = some v) ∧ Leaf enc Try.prog w base (fun _ => true) held [2, 9] vs) :
    ∃ es : List En, es.length = len ∧ RdE w A es := by
  have hx : ∀ i, i < cap → ∃ x : En, ∃ b off, A = some ⟨b, off, none⟩ ∧ b < w.heap.size ∧ w.cell? ⟨b, off + i * 2, none⟩ = some (.int .i64 x.1) ∧ w.cell? ⟨b, off + i * 2 + 1, none⟩ = some (.string x.2) := fun i hi => by
    obtain ⟨b, off, vs, rfl, hb, _, hc, hl⟩ := h4 i hi
    obtain ⟨n, vs', rfl, _, hl⟩ := leaf_int Try.underlying2 hl
    obtain ⟨s, vs'', rfl, _, _, hl⟩ := leaf_string Try.underlying9 hl
    have h0 := hc 0 _ rfl
    have h1 := hc 1 _ rfl
    exact ⟨(n, s), b, off, rfl, hb, h0, h1⟩
  refine ⟨(List.range len).map fun i => if hi : i < cap then (hx i hi).choose else default, by simp, fun i hi => ?_⟩
  have hi' : i < len := by simpa using hi
  obtain ⟨b, off, e, hb, h1, h2⟩ := (hx i (by omega)).choose_spec
  have e0 : ((List.range len).map fun i => if hi : i < cap then (hx i hi).choose else default).getD i default = (hx i (by omega)).choose := by
    simp [List.getD, hi', show i < cap from by omega]
  rw [e0]
  exact ⟨b, off, e, hb, h1, h2⟩

set_option maxRecDepth 100000 in
/-- entries as an argument -/
theorem entries_arg {H : Type} {enc : TypeId × Value → H} {w : World} {base b0 : Nat} {held : Bool} {v : Value} {d : DataW H} {p : List MemPlace}
    (hv : Value.okWide Try.prog w .any b0 22 v) (h : DataW.Trod enc Try.prog w base (fun _ => true) held 22 v d p) (hw : (d.weights Try.prog 22).all (· ≤ reachBytes) = true) :
    ∃ A es cap, v = .slice A (List.length es) cap ∧ List.length es ≤ cap ∧ cap ≤ 2 ^ 47 ∧ RdE w A es := by
  obtain ⟨A, len, cap, rfl, h1, _, h2, h4⟩ := open_arg_slice (n := 2) (ts := [2, 9]) Try.underlying22 (by kernel_rfl) (by kernel_rfl) (by simp) hv h hw
  obtain ⟨es, rfl, hR⟩ := of_elems h1 h4
  refine ⟨A, es, cap, rfl, h1, by rw [show Try.prog.bytesOf 32 = 24 from by kernel_rfl] at h2; unfold reachBytes at h2; omega, hR⟩

/-- a log -/
abbrev trV (b bt : Int) (A : Option Addr) (n cap : Nat) : Value := .agg #[.int .i64 b, .int .i64 bt, .slice A n cap]

set_option maxRecDepth 100000 in
/-- a log as an argument -/
theorem trail_arg {H : Type} {enc : TypeId × Value → H} {w : World} {base b0 : Nat} {held : Bool} {v : Value} {d : DataW H} {p : List MemPlace}
    (hv : Value.okWide Try.prog w .any b0 24 v) (h : DataW.Trod enc Try.prog w base (fun _ => true) held 24 v d p) (hw : (d.weights Try.prog 24).all (· ≤ reachBytes) = true) :
    ∃ b bt A es cap, v = trV b bt A (List.length es) cap ∧ (Lit.int .i64 b).wf = true ∧ (Lit.int .i64 bt).wf = true ∧ List.length es ≤ cap ∧ cap ≤ 2 ^ 47 ∧ RdE w A es := by
  obtain ⟨vs, rfl, hl⟩ := open_arg (n := 2) (ts := [2, 2, 22]) Try.underlying24 (by kernel_rfl) hv h hw
  obtain ⟨b, vs', rfl, hb, hl⟩ := leaf_int Try.underlying2 hl
  obtain ⟨bt, vs'', rfl, hbt, hl⟩ := leaf_int Try.underlying2 hl
  match vs'', hl with
  | v :: r, ⟨⟨m, y, hy, hw'⟩, hr⟩ =>
    obtain rfl := leaf_nil hr
    obtain ⟨A, len, cap, e, h1, _, h2, h4⟩ := open_elems (n := 2) (ts := [2, 9]) Try.underlying22 (by kernel_rfl) (by kernel_rfl) (by simp) hy hw'
    obtain ⟨es, rfl, hR⟩ := of_elems h1 h4
    injection e with e
    subst e
    refine ⟨b, bt, A, es, cap, rfl, hb, hbt, h1, by rw [show Try.prog.bytesOf 32 = 24 from by kernel_rfl] at h2; unfold reachBytes at h2; omega, hR⟩
end Go.Proofs.Ytdladjgdhnkkcaa
