
/-
  Arguments of Tally's laws.
  Conditions: stated lemma by lemma.
-/
import Derived.Test.YtboiolnnhmlieaaGc16
import Derived.Test.YtboiolnnhmlieaaOpen
import Derived.Conc.HoldsTime
namespace Go.Proofs.Ytboiolnnhmlieaa.Gang
open Go.Proofs.Ytboiolnnhmlieaa Go.Proofs.Ytboiolnnhmlieaa.Gang
open Go.Conc Go.ConcM Go.ConcN Go.ChangeShapes Go.WideShapes Go.ChangeAt Go.RowKit Go.Deep
set_option linter.unusedVariables false
set_option maxRecDepth 100000 in
theorem steps_arg {H : Type} {enc : TypeId × Value → H} {w : World} {base b0 : Nat} {held : Bool} {v : Value} {d : DataW H} {p : List MemPlace}
    (hv : Value.okWide Try.prog w .any b0 32 v) (h : DataW.Trod enc Try.prog w base (fun _ => true) held 32 v d p) (hw : (d.weights Try.prog 32).all (· ≤ reachBytes) = true) :
    ∃ sl xs cap, v = .slice sl (List.length xs) cap ∧ List.length xs ≤ 4611686018427387904 ∧ StepsAt sl xs w ∧ ∀ ar off, sl = some ⟨ar, off, none⟩ → ar < w.heap.size := by
  obtain ⟨A, len, cap, rfl, h1, _, h2, h4⟩ := open_arg_slice (n := 2) (ts := [3, 2]) Try.underlying32 (by kernel_rfl) (by kernel_rfl) (by simp) hv h hw
  have hx : ∀ i, i < cap → ∃ x : Int × Int, ∃ b off, A = some ⟨b, off, none⟩ ∧ b < w.heap.size ∧ w.cell? ⟨b, off + i * 2, none⟩ = some (.int .i64 x.1) ∧ w.cell? ⟨b, off + i * 2 + 1, none⟩ = some (.int .i64 x.2) := fun i hi => by
    obtain ⟨b, off, vs, rfl, hb, _, hc, hl⟩ := h4 i hi
    obtain ⟨k, vs1, rfl, _, hl⟩ := leaf_int Try.underlying3 hl
    obtain ⟨n, vs2, rfl, hn, hl⟩ := leaf_int Try.underlying2 hl
    have g0 := hc 0 _ rfl
    have g1 := hc 1 _ rfl
    exact ⟨(k, n), b, off, rfl, hb, g0, g1⟩
  refine ⟨A, (List.range len).map fun i => if hi : i < cap then (hx i hi).choose else default, cap, by simp, by rw [show Try.prog.bytesOf 31 = 16 from by kernel_rfl] at h2; unfold reachBytes at h2; simp; omega, fun hne => ?_, fun ar off e => ?_⟩
  · have hlen : 0 < len := by
      rcases Nat.eq_zero_or_pos len with e | e
      · subst e; simp at hne
      · exact e
    obtain ⟨b, off, e, hb, _⟩ := (hx 0 (by omega)).choose_spec
    refine ⟨b, off, e, hb, fun i hi => ?_⟩
    have hi' : i < len := by simpa using hi
    obtain ⟨b', off', e', hb', g0, g1⟩ := (hx i (by omega)).choose_spec
    rw [e] at e'
    cases e'
    simp only [List.getElem_map, List.getElem_range]
    rw [dif_pos (show i < cap by omega)]
    exact ⟨g0, g1⟩
  · subst e
    unfold Value.okWide at hv
    rw [Try.underlying32] at hv
    unfold Cell.okWide Cell.ok at hv
    rw [Try.underlying32] at hv
    obtain ⟨_, _, _, _, row, cells, hs, _⟩ := hv
    unfold World.shape? at hs
    cases hh : w.heap[ar]? with
    | none => rw [hh] at hs; cases hs
    | some o => exact (Array.getElem?_eq_some_iff.1 hh).1
set_option maxRecDepth 100000 in
theorem step_arg {H : Type} {enc : TypeId × Value → H} {w : World} {base b0 : Nat} {held : Bool} {v : Value} {d : DataW H} {p : List MemPlace}
    (hv : Value.okWide Try.prog w .any b0 31 v) (h : DataW.Trod enc Try.prog w base (fun _ => true) held 31 v d p) (hw : (d.weights Try.prog 31).all (· ≤ reachBytes) = true) :
    ∃ i n : Int, v = .agg #[.int .i64 i, .int .i64 n] := by
  obtain ⟨vs, rfl, hl⟩ := open_arg (n := 3) (ts := [3, 2]) Try.underlying31 (by kernel_rfl) hv h hw
  obtain ⟨i, vs, rfl, hi, hl⟩ := leaf_int Try.underlying3 hl
  obtain ⟨n, vs, rfl, hn, hl⟩ := leaf_int Try.underlying2 hl
  have := leaf_nil hl
  subst this
  exact ⟨i, n, rfl⟩
end Go.Proofs.Ytboiolnnhmlieaa.Gang
