/-
  slices.DeleteFunc at the closure of Cancel, on a row of items that the wheel owns.
  Conditions: the row is the wheel's own, the closure's variable lies elsewhere.
-/
import Derived.Test.YtheocdfccdpmbaaWhG
import Derived.Lib.SliceRun
namespace Go.Proofs.Ytheocdfccdpmbaa
open Go.RowKit Go.Maps
set_option linter.unusedVariables false
set_option linter.unusedSimpArgs false
set_option linter.unusedSectionVars false
section
variable {w : World} {base g n cap size : Nat} {e : TypeId}
/-- cells behind o take other values -/
theorem rowStored : ∀ (vs : List Value) (o : Nat) (w : World) (xs : List Value), w.ownsRow base e size (.slice (some ⟨g, 0, none⟩) n cap) n xs → ∃ xs', (w.setCells g o vs).ownsRow base e size (.slice (some ⟨g, 0, none⟩) n cap) n xs' ∧ xs'.take o = xs.take o ∧ w.grownBy (w.setCells g o vs) (some g)
  | [], o, w, xs, h => ⟨xs, h, rfl, World.grownBy.refl w _⟩
  | v :: vs, o, w, xs, h => by
    have h1 := h.stored o v
    obtain ⟨xs', k1, k2, k3⟩ := rowStored vs (o + 1) _ _ h1.1
    refine ⟨xs', k1, ?_, ?_⟩
    · have := congrArg (List.take o) k2
      rw [List.take_take, List.take_take, Nat.min_eq_left (by omega)] at this
      rw [this, List.take_set_of_le (by omega)]
    · refine ⟨k3.os.trans h1.2.os, k3.tape.trans h1.2.tape, k3.output.trans h1.2.output, Nat.le_trans h1.2.size k3.size, fun k hk hne => ?_⟩
      exact (k3.block k (Nat.lt_of_lt_of_le hk h1.2.size) hne).trans (h1.2.block k hk hne)
/-- clear, whatever the elements are -/
theorem run_clearK {P : Program} (w : World) (t e ty : TypeId) (z : Value) (ht : P.underlying t = some (.slice e)) (hv : ∀ w, (zeroValue e).run P w = .ok z w) (b o n c : Nat) (hn : 0 < n)
    (hc : ∀ j, j < (Builtin.zeroCells z.cells n).toList.length → (w.cell? ⟨b, o + j, none⟩).isSome = true) (hf : ∀ j, j < (Builtin.zeroCells z.cells n).toList.length → w.frozen? ⟨b, o + j, none⟩ = false) (h1 : ∀ v ∈ (Builtin.zeroCells z.cells n).toList, v.oneCell' = true) :
    (Builtin.clear_ #[t] ty #[.slice (some ⟨b, o, none⟩) n c]).run P w = .ok (.tuple #[]) (w.setCells b o (Builtin.zeroCells z.cells n).toList) := by
  have hst := run_storeCells_cells (P := P) b o (Builtin.zeroCells z.cells n).toList 0 w (by simpa using hc) (by simpa using hf) h1
  simp only [Nat.add_zero] at hst
  obtain ⟨m, rfl⟩ : ∃ m, n = m + 1 := ⟨n - 1, by omega⟩
  simp [Builtin.clear_, run_underlying ht, hv]
  rw [hst]
  rfl
end
theorem flatW_cons (x : Itm) (xs : List Itm) : layW.flat (x :: xs) = .int .i64 x.id :: .int .i64 x.at_ :: layW.flat xs := by simp [Lay.flat, layW]
theorem flatW_set : ∀ (xs : List Itm) (j : Nat) (y : Itm), layW.flat (xs.set j y) = ((layW.flat xs).set (j * 2) (.int .i64 y.id)).set (j * 2 + 1) (.int .i64 y.at_)
  | [], j, y => by simp [Lay.flat]
  | x :: xs, 0, y => by simp [flatW_cons]
  | x :: xs, j + 1, y => by
    rw [List.set_cons_succ, flatW_cons, flatW_cons, flatW_set xs j y, show (j + 1) * 2 = j * 2 + 1 + 1 from by omega]
    rfl
section
variable {w : World} {base g n cap : Nat} {xs : List Itm}
theorem OwnL.len_eq {α : Type} [Inhabited α] {L : Lay α} {e : TypeId} {w : World} {base g n cap : Nat} {xs : List α} (h : OwnL L e w base (.slice (some ⟨g, 0, none⟩) n cap) xs) : n = xs.length := by
  rcases h.2 with ⟨e, _⟩ | ⟨g', cap', cur, e, _⟩
  · cases e
  · injection e
theorem OwnL.atW (h : OwnL layW 31 w base (.slice (some ⟨g, 0, none⟩) n cap) xs) (j : Nat) (hj : j < xs.length) :
    w.cell? ⟨g, j * 2, none⟩ = some (.int .i64 (xs.getD j default).id) ∧ w.cell? ⟨g, j * 2 + 1, none⟩ = some (.int .i64 (xs.getD j default).at_) ∧ w.frozen? ⟨g, j * 2, none⟩ = false ∧ w.frozen? ⟨g, j * 2 + 1, none⟩ = false := by
  have hn := h.len_eq
  subst hn
  have h2 : layW.k = 2 := rfl
  refine ⟨?_, ?_, h.frozenAt _, h.frozenAt _⟩
  · have := h.cellAt (j * 2) (by rw [h2]; omega)
    rw [this]
    have := layW.flat_get xs j 0 hj (by decide)
    rw [h2] at this
    simpa [layW] using this
  · have := h.cellAt (j * 2 + 1) (by rw [h2]; omega)
    rw [this]
    have := layW.flat_get xs j 1 hj (by decide)
    rw [h2] at this
    simpa [layW] using this
theorem OwnL.putW (h : OwnL layW 31 w base (.slice (some ⟨g, 0, none⟩) n cap) xs) (j : Nat) (id a : Int) :
    OwnL layW 31 ((w.setCell ⟨g, j * 2, none⟩ (.int .i64 id)).setCell ⟨g, j * 2 + 1, none⟩ (.int .i64 a)) base (.slice (some ⟨g, 0, none⟩) n cap) (xs.set j ⟨id, a⟩) ∧ w.grownBy ((w.setCell ⟨g, j * 2, none⟩ (.int .i64 id)).setCell ⟨g, j * 2 + 1, none⟩ (.int .i64 a)) (some g) := by
  have hn := h.len_eq
  subst hn
  have h1 := World.ownsRow.stored h (j * 2) (.int .i64 id)
  have h2 := World.ownsRow.stored h1.1 (j * 2 + 1) (.int .i64 a)
  refine ⟨?_, h2.2.os.trans h1.2.os, h2.2.tape.trans h1.2.tape, h2.2.output.trans h1.2.output, Nat.le_trans h1.2.size h2.2.size, fun k hk hne => (h2.2.block k (Nat.lt_of_lt_of_le hk h1.2.size) hne).trans (h1.2.block k hk hne)⟩
  unfold OwnL
  rw [flatW_set, List.length_set]
  exact h2.1
theorem OwnL.cutW (h : OwnL layW 31 w base (.slice (some ⟨g, 0, none⟩) n cap) xs) (i : Nat) (hi : i ≤ xs.length) (vs : List Value) :
    OwnL layW 31 (w.setCells g (i * 2) vs) base (.slice (some ⟨g, 0, none⟩) i cap) (xs.take i) ∧ w.grownBy (w.setCells g (i * 2) vs) (some g) := by
  have hn := h.len_eq
  subst hn
  obtain ⟨ys, k1, k2, k3⟩ := rowStored vs (i * 2) w _ h
  refine ⟨?_, k3⟩
  rcases k1.2 with ⟨e, _⟩ | ⟨g', cap', cur, e, h1, h2, h3, h4, h5, h6⟩
  · cases e
  · injection e with e1 e2 e3
    injection e1 with e1
    injection e1 with e1 _ _
    subst e1; subst e3
    have hl : (xs.take i).length = i := by rw [List.length_take]; omega
    refine ⟨by rw [Lay.flat_len], .inr ⟨g, cap, cur, by rw [hl], h1, h2, by omega, h4, h5, ?_⟩⟩
    have hk : layW.k = 2 := rfl
    rw [hk] at h6 ⊢
    have := congrArg (List.take (i * 2)) h6
    rw [List.take_take, Nat.min_eq_left (by omega), k2] at this
    rw [hl]
    rw [this]
    have hsp : xs = xs.take i ++ xs.drop i := (List.take_append_drop i xs).symm
    have e1 : layW.flat xs = layW.flat (xs.take i) ++ layW.flat (xs.drop i) := by rw [← Lay.flat_app, List.take_append_drop]
    rw [e1, List.take_left' (by rw [Lay.flat_len, hk, hl])]
end
end Go.Proofs.Ytheocdfccdpmbaa
