
/-
  What the laws of RaftTicks and RaftHandles hold on to; loads that a guard lets.
  Conditions: stated lemma by lemma.
-/
import Derived.Test.YtdladjgdhnkkcaaGreatZRf28ToRg11
import Derived.Test.YtdladjgdhnkkcaaGreatZRf38ToRf37
import Derived.Test.YtdladjgdhnkkcaaGreatZRg10
namespace Go.Proofs.YtdladjgdhnkkcaaGreat
open Go.ChangeShapes Go.WideShapes Go.ChangeAt Go.RowKit Go.Deep
set_option linter.unusedVariables false
set_option linter.unusedSimpArgs false
set_option maxHeartbeats 20000000

/-- a whole block is loaded where the guard lets it -/
theorem wpList_loadG {P : Program} {w : World} {t : TypeId} {cs : Array Value} {ops : Array Oper} {rest : List Oper} {o : Oper} {a : Act} {Q : Exit → Act → World → Prop} (ty : TypeId) (x : Operand) (ho : o.op = .load ty x)
    (g : Nat) (hx : a.eval x = .pointer (some ⟨g, 0, none⟩)) {fs : Array Field} (hB : Blk w g t cs)
    (hu : P.underlying ty = some (.struct fs)) (hi : (P.info? ty).map (·.size) = some cs.size) (hw : Region.wanted o (yielded ops a.tmps) = true)
    (h : wpList P ops Q rest (a.put o.dst (.agg cs)) w) : wpList P ops Q (o :: rest) a w :=
  wpList_step fun K hK => by
    rw [if_pos hw]
    exact wp_load_row ty x ho g hx t cs (0, 0) _ hB hu rfl hi (hK _ _ h)
/-- the first cells of a block are loaded where the guard lets it -/
theorem wpList_loadPG {P : Program} {w : World} {t : TypeId} {cs : Array Value} {ops : Array Oper} {rest : List Oper} {o : Oper} {a : Act} {Q : Exit → Act → World → Prop} (ty : TypeId) (x : Operand) (ho : o.op = .load ty x)
    (g : Nat) (hx : a.eval x = .pointer (some ⟨g, 0, none⟩)) {fs : Array Field} (hB : Blk w g t cs) (l : List Value) (hl : l = cs.toList.take l.length)
    (hu : P.underlying ty = some (.struct fs)) (hi : (P.info? ty).map (·.size) = some l.length) (hw : Region.wanted o (yielded ops a.tmps) = true)
    (h : wpList P ops Q rest (a.put o.dst (.agg l.toArray)) w) : wpList P ops Q (o :: rest) a w :=
  wpList_step fun K hK => by
    rw [if_pos hw]
    exact wp_load_mid ty x ho g 0 hx l _ (hB.range l hl) hu rfl hi (hK _ _ h)
theorem wpAnyH_oneG {P : Program} {ops : Array Oper} {Q : Exit → Act → World → Prop} {md : Region.Mode} {S : World → Prop} {i : Nat} {o : Oper} {fuel : Nat} {listed : Array Bool} {a : Act} {w : World} (hr : Region.ready md ops listed = [i]) (ho : ops[i]? = some o) (hw : Region.wanted o (yielded ops a.tmps) = true)
    (h : ∀ K : Act → World → Prop, (∀ a' w', S w' → wpAnyH P md ops Q S fuel (listed.setIfInBounds i true) a' w' → K a' w') → o.wp P a w K Q) : wpAnyH P md ops Q S (fuel + 1) listed a w := by
  refine wpAnyH_all hr (by simp) fun j hj => ?_
  obtain rfl : j = i := by simpa using hj
  refine wpOp_step ho fun K hK => ?_
  rw [if_pos hw]
  exact h K fun a' w' hS hW => hK a' w' ⟨hS, hW⟩
/-- a struct that is laid into a new block -/
theorem boxed (W : World) (t : TypeId) (z cs : Array Value) : Below W.heap.size W ((W.alloc (.cells z t)).setRow W.heap.size cs) ∧ Blk ((W.alloc (.cells z t)).setRow W.heap.size cs) W.heap.size t cs :=
  ⟨bel_row (bel_new (Below.refl _ _) _) (Nat.le_refl _) _, (Blk.new W t z).rowSame cs⟩
theorem rdR_out {w : World} {r : Nod} {x : NdX} {a : Option Addr} {c : Nat} (h : RdR w r { x with oA := a, oc := c }) : RdR w r x := { h with }
/-- the node handed in -/
structure T1 (w : World) (r : Nod) (x : NdX) (W : World) : Prop where
  bel : Below w.heap.size w W
  b2 : Blk W w.heap.size 28 (raftL r x).toArray
theorem T1.to {w W W' : World} {r : Nod} {x : NdX} (h : T1 w r x W) (hb : Below W.heap.size W W') : T1 w r x W' := ⟨bel_tr h.bel hb, h.b2.bel hb⟩
/-- .. and what the program answered -/
structure T2 (q : Nod) (gA : Nat) (xA : NdX) (LA : List MsgV) (W : World) : Prop where
  bA : Blk W gA 28 (raftL q xA).toArray
  rA : RdR W q xA
  mA : RdM W xA.oA LA
theorem T2.to {W W' : World} {q : Nod} {gA : Nat} {xA : NdX} {LA : List MsgV} (h : T2 q gA xA LA W) (hb : Below W.heap.size W W') : T2 q gA xA LA W' := ⟨h.bA.bel hb, h.rA.bel hb, h.mA.bel hb⟩
/-- .. and what the reference answered -/
structure T3 (q : Nod) (gO : Nat) (xO : NdX) (LO : List MsgV) (W : World) : Prop where
  bO : Blk W gO 36 (nodeC q xO LO.length)
  rO : RdR W q xO
  mO : RdM W xO.oA LO
theorem T3.to {W W' : World} {q : Nod} {gO : Nat} {xO : NdX} {LO : List MsgV} (h : T3 q gO xO LO W) (hb : Below W.heap.size W W') : T3 q gO xO LO W' := ⟨h.bO.bel hb, h.rO.bel hb, h.mO.bel hb⟩
theorem restart_sz {r : Nod} (h : Sz r) : Sz (Rf.restart r) := ⟨h.conf, h.es, by simp [Rf.restart], by simp [Rf.restart], by simp [Rf.restart]⟩
set_option maxRecDepth 100000 in
/-- a message as an argument -/
theorem msg_arg {H : Type} {enc : TypeId × Value → H} {w : World} {base : Nat} {held : Bool} {b0 : Nat} {v : Value} {d : DataW H} {p : List MemPlace}
    (hv : Value.okWide Tryz.prog w .any b0 30 v) (h : DataW.Trod enc Tryz.prog w base (fun _ => true) held 30 v d p) (hw : (d.weights Tryz.prog 30).all (· ≤ reachBytes) = true) :
    ∃ m A cap, v = msgV m A cap ∧ m.es.length ≤ cap ∧ m.es.length ≤ 9223372036854775807 ∧ RdE w A m.es := by
  obtain ⟨vs, rfl, hl⟩ := open_arg (n := 3) (ts := [3, 3, 3, 2, 2, 2, 2, 4, 23, 9]) Tryz.underlying30 (by kernel_rfl) hv h hw
  obtain ⟨m, B, bc, vs, rfl, e1, e2, e3, hl⟩ := leaf_msg hl
  obtain rfl := leaf_nil hl
  exact ⟨m, B, bc, rfl, e1, by omega, e3⟩
end Go.Proofs.YtdladjgdhnkkcaaGreat
