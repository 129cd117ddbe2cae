/-
  A region that draws its order, whose operations read and whose callees may make memory: one walk of the order of the text, in any world of a class S.
  Conditions: every operation yields one value in all worlds of the class; every callee leaves a world of the class.
-/
import Derived.Test.YtheocdfccdpmbaaKit
namespace Go.Proofs.Ytheocdfccdpmbaa
open Go.RowKit

/-- a world of the class -/
structure InS (S : World → Prop) where
  val : World
  ok : S val

set_option linter.unusedVariables false
theorem wp_region_in {P : Program} {id : Nat} {Q : Exit → Act → World → Prop} {a : Act} {w : World} {l : List Oper} (S : World → Prop) (hm : P.follows .mixedOrders = true) (hB : Region.lexB .any l.toArray = true)
    (h0 : S w.drew) (h : wpQuiet P l.toArray (fun w' => ∃ x : InS S, w' = x.val) (fun a' => ∀ w', (∃ x : InS S, w' = x.val) → Q .normal a' w') l a) : (Code.region id l.toArray true).wp P Q a w :=
  wp_region_quiet (C := fun w' => ∃ x : InS S, w' = x.val) hm hB ⟨⟨w.drew, h0⟩, rfl⟩ (by simpa using h)

theorem calls_in {P : Program} {f : FuncId} {args : Array Value} {S : World → Prop} {x : InS S} {v : Value}
    (h : Calls P f args x.val fun e w'' => e = .returned v ∧ S w'') : Calls P f args x.val fun e w'' => e = .returned v ∧ ∃ y : InS S, w'' = y.val :=
  h.mono fun _ w'' ⟨he, hs⟩ => ⟨he, ⟨w'', hs⟩, rfl⟩
/-- a callee that makes memory, at a class that new memory keeps -/
theorem calls_in_bel {P : Program} {f : FuncId} {args : Array Value} {S : World → Prop} {x : InS S} {v : Value} (hS : ∀ W W', S W → Below W.heap.size W W' → S W')
    (h : Calls P f args x.val fun e w'' => e = .returned v ∧ Below x.val.heap.size x.val w'') : Calls P f args x.val fun e w'' => e = .returned v ∧ ∃ y : InS S, w'' = y.val :=
  h.mono fun _ w'' ⟨he, hb⟩ => ⟨he, ⟨w'', hS _ _ x.ok hb⟩, rfl⟩
theorem calls_in_eq {P : Program} {f : FuncId} {args : Array Value} {S : World → Prop} {x : InS S} {v : Value}
    (h : Calls P f args x.val fun e w'' => e = .returned v ∧ x.val = w'') : Calls P f args x.val fun e w'' => e = .returned v ∧ ∃ y : InS S, w'' = y.val :=
  h.mono fun _ w'' ⟨he, hb⟩ => ⟨he, x, hb.symm⟩

theorem bel_drew {B : Nat} {a w : World} (h : Below B a w) : Below B a w.drew := ⟨h.os, h.tape, h.output, h.size, h.block⟩

/-- since w, and block g holds these cells -/
def Since1 (w : World) (g : Nat) (t : TypeId) (cs : Array Value) (W : World) : Prop := Below w.heap.size w W ∧ Blk W g t cs
theorem Since1.keep {w : World} {g : Nat} {t : TypeId} {cs : Array Value} : ∀ W W', Since1 w g t cs W → Below W.heap.size W W' → Since1 w g t cs W' :=
  fun _ _ h hb => ⟨h.1.trans (hb.mono h.1.size), h.2.bel hb⟩
theorem Since1.new (w : World) (t : TypeId) (cs : Array Value) : Since1 w w.heap.size t cs (w.alloc (.cells cs t)).drew :=
  ⟨bel_drew ((Below.refl _ _).alloc (Nat.le_refl _) _), Blk.new w t cs⟩
end Go.Proofs.Ytheocdfccdpmbaa
