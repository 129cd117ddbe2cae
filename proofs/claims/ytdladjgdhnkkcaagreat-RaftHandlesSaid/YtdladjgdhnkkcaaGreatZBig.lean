
/-
  Structs of many cells, loaded and stored whole: laws at the operation, and what a store of a whole block leaves.
  Conditions: stated lemma by lemma.
-/
import Derived.Test.YtdladjgdhnkkcaaGreatZKitToTrP
import Derived.Deep.MidRow
import Derived.BigQuiet
namespace Go.Proofs.YtdladjgdhnkkcaaGreat
open Go.RowKit
set_option linter.unusedVariables false
section
variable {P : Program} {w w' a0 : World} {g g' B : Nat} {t : TypeId} {cs cs' old : Array Value}
theorem Blk.rowSame (h : Blk w g t old) (cs : Array Value) : Blk (w.setRow g cs) g t cs := setRow_heap w g old cs t (0, 0) h
theorem Blk.rowFar (h : Blk w g t cs) (hne : g ≠ g') (cs' : Array Value) : Blk (w.setRow g' cs') g t cs := (setRow_other w g' g cs' hne).trans h
theorem bel_row (h : Below B a0 w) (hg : B ≤ g) (cs : Array Value) : Below B a0 (w.setRow g cs) :=
  ⟨h.os, h.tape, h.output, by rw [setRow_size]; exact h.size, fun i hi => (setRow_other w g i cs (by omega)).trans (h.block i hi)⟩
theorem Blk.range (h : Blk w g t cs) (l : List Value) (hl : l = cs.toList.take l.length) : w.rangeAt g 0 l := fun j v hv => by
  rw [hl] at hv
  rw [Nat.zero_add, h.cells j]
  have := List.getElem?_eq_some_iff.1 hv
  obtain ⟨hlt, e⟩ := this
  rw [List.getElem_take] at e
  rw [List.length_take] at hlt
  have h2 : j < cs.toList.length := by omega
  have h3 : cs.toList[j]? = some v := by rw [List.getElem?_eq_getElem h2, e]
  simpa using h3

/-- a whole block is loaded -/
theorem wpList_loadB {ops : Array Oper} {rest : List Oper} {o : Oper} {a : Act} {Q : Exit → Act → World → Prop} (hgd : o.guard = none) (ty : TypeId) (x : Operand) (ho : o.op = .load ty x)
    (g : Nat) (hx : a.eval x = .pointer (some ⟨g, 0, none⟩)) {fs : Array Field} (hB : Blk w g t cs)
    (hu : P.underlying ty = some (.struct fs)) (hi : (P.info? ty).map (·.size) = some cs.size)
    (h : wpList P ops Q rest (a.put o.dst (.agg cs)) w) : wpList P ops Q (o :: rest) a w :=
  wpList_load_row hgd ty x ho g hx t cs (0, 0) _ hB hu rfl hi h
/-- the first cells of a block are loaded -/
theorem wpList_loadP {ops : Array Oper} {rest : List Oper} {o : Oper} {a : Act} {Q : Exit → Act → World → Prop} (hgd : o.guard = none) (ty : TypeId) (x : Operand) (ho : o.op = .load ty x)
    (g : Nat) (hx : a.eval x = .pointer (some ⟨g, 0, none⟩)) {fs : Array Field} (hB : Blk w g t cs) (l : List Value) (hl : l = cs.toList.take l.length)
    (hu : P.underlying ty = some (.struct fs)) (hi : (P.info? ty).map (·.size) = some l.length)
    (h : wpList P ops Q rest (a.put o.dst (.agg l.toArray)) w) : wpList P ops Q (o :: rest) a w :=
  wpList_load_mid hgd ty x ho g 0 hx l _ (hB.range l hl) hu rfl hi h
/-- a whole block is stored -/
theorem wpList_storeB {ops : Array Oper} {rest : List Oper} {o : Oper} {a : Act} {Q : Exit → Act → World → Prop} (hgd : o.guard = none) (ty : TypeId) (x y : Operand) (ho : o.op = .store ty x y)
    (g : Nat) (cells : Array Value) (hx : a.eval x = .pointer (some ⟨g, 0, none⟩)) (hy : a.eval y = .agg cells) (hB : Blk w g t old)
    (hi : (P.info? ty).map (·.size) = some cells.size) (hold : old.size = cells.size) (h1 : cells.all (·.oneCell') = true)
    (h : wpList P ops Q rest (a.put o.dst undef) (w.setRow g cells)) : wpList P ops Q (o :: rest) a w :=
  wpList_store_row hgd ty x y ho g cells hx hy t old hB hi hold h1 h
/-- .. in a region of reads -/
theorem wpQuiet_loadP {ops : Array Oper} {C : World → Prop} {L : Act → Prop} {rest : List Oper} {o : Oper} {a : Act} (hgd : o.guard = none) (ty : TypeId) (x : Operand) (ho : o.op = .load ty x)
    (g : Nat) (hx : a.eval x = .pointer (some ⟨g, 0, none⟩)) {fs : Array Field} (l : List Value) (hl : ∀ w, C w → ∃ t cs, Blk w g t cs ∧ l = cs.toList.take l.length)
    (hu : P.underlying ty = some (.struct fs)) (hi : (P.info? ty).map (·.size) = some l.length)
    (h : wpQuiet P ops C L rest (a.put o.dst (.agg l.toArray))) : wpQuiet P ops C L (o :: rest) a :=
  wpQuiet_step fun K hK => by
    have hw : Region.wanted o (yielded ops a.tmps) = true := by simp [Region.wanted, hgd]
    rw [if_pos hw]
    refine ⟨_, fun w hC => ?_, hK _ h⟩
    obtain ⟨t, cs, hB, hl'⟩ := hl w hC
    have hr := run_loadAt_mid (P := P) w g 0 ty l _ (hB.range l hl') hu rfl hi
    unfold Oper.quietAt execOp
    simp only [ho, hx, Sem.run_bind, hr, Sem.run_pure, Result.andThen_ok]
    exact ⟨rfl, rfl⟩
/-- what a struct's cell reads as among the results -/
theorem run_loadVarB (hB : Blk w g t cs) (ty : TypeId) {fs : Array Field} (hu : P.underlying ty = some (.struct fs)) (hi : (P.info? ty).map (·.size) = some cs.size) :
    (loadVar ty ⟨g, 0, none⟩).run P w = .ok (.agg cs) w := run_loadVar_row w g t ty cs (0, 0) _ hB hu rfl hi
end
end Go.Proofs.YtdladjgdhnkkcaaGreat
