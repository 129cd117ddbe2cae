
/-
  2 texts in one.
  Conditions: stated lemma by lemma.
-/
import Derived.Test.YtdladjgdhnkkcaaGreatZRg5ToRg6
import Derived.Test.YtdladjgdhnkkcaaGreatZRg9
import Derived.Test.YtdladjgdhnkkcaaGreatZRf35
import Derived.Test.YtdladjgdhnkkcaaGreatZRf26ToRf33
import Derived.Deep.Cut
import Derived.Test.YtdladjgdhnkkcaaGreatZRf36ToRf37
/-
  Contract of the reference of layer 14: a moment goes by.
  Conditions: the node can be read.
-/
namespace Go.Proofs.YtdladjgdhnkkcaaGreat
open Go.RowKit
set_option linter.unusedVariables false
set_option linter.unusedSimpArgs false
set_option maxHeartbeats 4000000

theorem infoO : (Tryz.prog.info? 36).map (·.size) = some 17 := by kernel_rfl
theorem nodeC_one (r : Nod) (x : NdX) (n : Nat) : (nodeC r x n).all (·.oneCell') = true := all_oneCell_toArray (fun v hv => by
  simp only [List.mem_cons, List.not_mem_nil, or_false] at hv
  rcases hv with rfl | rfl | rfl | rfl | rfl | rfl | rfl | rfl | rfl | rfl | rfl | rfl | rfl | rfl | rfl | rfl | rfl <;> rfl)
/-- what the reference answers: a node and what it sends -/
def AnsO (w : World) (r : Nod) (Ms : List Msg) (e : Ending) (w' : World) : Prop :=
  (∃ x col LV, e = .returned (.agg (nodeC r x LV.length)) ∧ LV.map (·.m) = Ms ∧ Rest w.heap.size col r x LV w') ∧ Below w.heap.size w w'

end Go.Proofs.YtdladjgdhnkkcaaGreat

/-
  What the laws of RaftTicks and RaftHandles hold on to; loads that a guard lets.
  Conditions: stated lemma by lemma.
-/
namespace Go.Proofs.YtdladjgdhnkkcaaGreat
open Go.ChangeShapes Go.WideShapes Go.ChangeAt Go.RowKit Go.Deep
set_option linter.unusedVariables false
set_option linter.unusedSimpArgs false
set_option maxHeartbeats 20000000

/-- a whole block is loaded where the guard lets it -/
theorem wpList_loadG {P : Program} {w : World} {t : TypeId} {cs : Array Value} {ops : Array Oper} {rest : List Oper} {o : Oper} {a : Act} {Q : Exit → Act → World → Prop} (ty : TypeId) (x : Operand) (ho : o.op = .load ty x)
    (g : Nat) (hx : a.eval x = .pointer (some ⟨g, 0, none⟩)) {fs : Array Field} (hB : Blk w g t cs)
    (hu : P.underlying ty = some (.struct fs)) (hi : (P.info? ty).map (·.size) = some cs.size) (hw : Region.wanted o (yielded ops a.tmps) = true)
    (h : wpList P ops Q rest (a.put o.dst (.agg cs)) w) : wpList P ops Q (o :: rest) a w :=
  wpList_step fun K hK => by
    rw [if_pos hw]
    exact wp_load_row ty x ho g hx t cs (0, 0) _ hB hu rfl hi (hK _ _ h)
/-- a struct that is laid into a new block -/
theorem boxed (W : World) (t : TypeId) (z cs : Array Value) : Below W.heap.size W ((W.alloc (.cells z t)).setRow W.heap.size cs) ∧ Blk ((W.alloc (.cells z t)).setRow W.heap.size cs) W.heap.size t cs :=
  ⟨bel_row (bel_new (Below.refl _ _) _) (Nat.le_refl _) _, (Blk.new W t z).rowSame cs⟩
/-- .. and what the program answered -/
structure T2 (q : Nod) (gA : Nat) (xA : NdX) (LA : List MsgV) (W : World) : Prop where
  bA : Blk W gA 28 (raftL q xA).toArray
  rA : RdR W q xA
  mA : RdM W xA.oA LA
theorem T2.to {W W' : World} {q : Nod} {gA : Nat} {xA : NdX} {LA : List MsgV} (h : T2 q gA xA LA W) (hb : Below W.heap.size W W') : T2 q gA xA LA W' := ⟨h.bA.bel hb, h.rA.bel hb, h.mA.bel hb⟩
/-- .. and what the reference answered -/
structure T3 (q : Nod) (gO : Nat) (xO : NdX) (LO : List MsgV) (W : World) : Prop where
  bO : Blk W gO 36 (nodeC q xO LO.length)
  rO : RdR W q xO
  mO : RdM W xO.oA LO
theorem T3.to {W W' : World} {q : Nod} {gO : Nat} {xO : NdX} {LO : List MsgV} (h : T3 q gO xO LO W) (hb : Below W.heap.size W W') : T3 q gO xO LO W' := ⟨h.bO.bel hb, h.rO.bel hb, h.mO.bel hb⟩
set_option maxRecDepth 100000 in
/-- a message as an argument -/
theorem msg_arg {H : Type} {enc : TypeId × Value → H} {w : World} {base : Nat} {held : Bool} {b0 : Nat} {v : Value} {d : DataW H} {p : List MemPlace}
    (hv : Value.okWide Tryz.prog w .any b0 30 v) (h : DataW.Trod enc Tryz.prog w base (fun _ => true) held 30 v d p) (hw : (d.weights Tryz.prog 30).all (· ≤ reachBytes) = true) :
    ∃ m A cap, v = msgV m A cap ∧ m.es.length ≤ cap ∧ m.es.length ≤ 9223372036854775807 ∧ RdE w A m.es := by
  obtain ⟨vs, rfl, hl⟩ := open_arg (n := 3) (ts := [3, 3, 3, 2, 2, 2, 2, 4, 23, 9]) Tryz.underlying30 (by kernel_rfl) hv h hw
  obtain ⟨m, B, bc, vs, rfl, e1, e2, e3, hl⟩ := leaf_msg hl
  obtain rfl := leaf_nil hl
  exact ⟨m, B, bc, rfl, e1, by omega, e3⟩
end Go.Proofs.YtdladjgdhnkkcaaGreat
