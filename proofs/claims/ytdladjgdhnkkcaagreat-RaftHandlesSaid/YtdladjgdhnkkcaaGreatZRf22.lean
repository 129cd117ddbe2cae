
/-
  Contract: a node at work; what a method of the package answers.
  Conditions: the node can be read.
-/
import Derived.Test.YtdladjgdhnkkcaaGreatZRf21
import Derived.Test.YtdladjgdhnkkcaaGreatZRf20
import Derived.Test.YtdladjgdhnkkcaaGreatZRf10
import Derived.Test.YtdladjgdhnkkcaaGreatZRf15ToRf13
import Derived.Test.YtdladjgdhnkkcaaGreatZRf16
namespace Go.Proofs.YtdladjgdhnkkcaaGreat
open Go.RowKit
set_option linter.unusedVariables false
set_option linter.unusedSimpArgs false
set_option maxHeartbeats 4000000

section
variable {base base' : Nat} {col : Nat → Nat} {r : Nod} {x : NdX} {L : List MsgV} {w w' : World}
theorem RdZ.low {A : Option Addr} {c : Nat} {es : List En} (h : RdZ base col w A c es) (hb : base' ≤ base) : RdZ base' col w A c es := ⟨h.1.low hb, h.2⟩
theorem Rest.low (h : Rest base col r x L w) (hb : base' ≤ base) : Rest base' col r x L w :=
  { h with bs := Nat.le_trans hb h.bs, conf := h.conf.low hb, es := h.es.low hb, votes := h.votes.low hb, next := h.next.low hb, mtch := h.mtch.low hb, out := h.out.low hb, ents := fun y hy => ⟨(h.ents y hy).1, (h.ents y hy).2.low hb⟩ }
/-- blocks ahead of the base have whatever colour -/
def lowCol (base : Nat) (col : Nat → Nat) : Nat → Nat := fun b => if b < base then 1 else col b
theorem lowCol_lt {b : Nat} (h : b < base) : lowCol base col b = 1 := by unfold lowCol; rw [if_pos h]
theorem lowCol_ge {b : Nat} (h : base ≤ b) : lowCol base col b = col b := by unfold lowCol; rw [if_neg (by omega)]
theorem OwnL.lowCol {α : Type} [Inhabited α] {Ly : Lay α} {e : TypeId} {v : Value} {xs : List α} {c : Nat} (h : OwnL Ly e w base v xs) (hc : Col col c v) : Col (Go.Proofs.YtdladjgdhnkkcaaGreat.lowCol base col) c v := fun b hb => by rw [lowCol_ge (h.lt b hb).1]; exact hc b hb
theorem RdZ.lowCol {A : Option Addr} {c : Nat} {es : List En} (h : RdZ base col w A c es) : RdZ base (Go.Proofs.YtdladjgdhnkkcaaGreat.lowCol base col) w A c es := ⟨h.1, (OwnE.row.1 h.1).lowCol h.2⟩
theorem Rest.lowCol (h : Rest base col r x L w) : Rest base (Go.Proofs.YtdladjgdhnkkcaaGreat.lowCol base col) r x L w :=
  { h with confc := h.conf.lowCol h.confc, es := h.es.lowCol, votesc := h.votes.lowCol h.votesc, nextc := h.next.lowCol h.nextc, mtchc := h.mtch.lowCol h.mtchc, outc := h.out.lowCol h.outc, ents := fun y hy => ⟨(h.ents y hy).1, (h.ents y hy).2.lowCol⟩ }
/-- nothing is sent -/
theorem Rest.out0 (h : Rest base col r x L w) : Rest base col r { x with oA := none, oc := 0 } [] w :=
  { h with out := OwnL.nil _ _, outc := fun b hb => (by cases hb), ents := fun y hy => (by cases hy) }
/-- whoever owns its lists can read them -/
theorem Rest.rdR (h : Rest base col r x L w) (h1 : r.conf.length ≤ 20000000000000) (h2 : r.es.length ≤ 6000000000000) (h3 : r.votes.length ≤ 20000000000000) (h4 : r.next.length ≤ 20000000000000) (h5 : r.mtch.length ≤ 20000000000000) : RdR w r x :=
  { conf := h.conf.rd.2.1, confl := h.conf.rd.2.2.1, confc := by have := h.conf.rd.2.2.2; unfold maxLen at this; exact this, conf2 := h1, es := h.es.rd, esl := h.es.le, es2 := h2, votes := h.votes.rd.2.1, votesl := h.votes.rd.2.2.1, votes2 := h3,
    next := h.next.rd.2.1, nextl := h.next.rd.2.2.1, next2 := h4, mtch := h.mtch.rd.2.1, mtchl := h.mtch.rd.2.2.1, mtch2 := h5 }
end
/-- sizes that a node may have that can be read -/
structure Sz (r : Nod) : Prop where
  conf : r.conf.length ≤ 20000000000000
  es : r.es.length ≤ 6000000000000
  votes : r.votes.length ≤ 20000000000000
  next : r.next.length ≤ 20000000000000
  mtch : r.mtch.length ≤ 20000000000000
theorem RdR.sz {w : World} {r : Nod} {x : NdX} (h : RdR w r x) : Sz r := ⟨h.conf2, h.es2, h.votes2, h.next2, h.mtch2⟩

/-- a node at work -/
def Start (w : World) (r : Nod) (e : Ending) (w' : World) : Prop :=
  (∃ g x col, e = .returned (.pointer (some ⟨g, 0, none⟩)) ∧ Nd 53 w.heap.size g col r x [] w') ∧ Below w.heap.size w w'

set_option maxRecDepth 20000 in
theorem start_calls (r : Nod) (x : NdX) (w : World) (h : Hid (RdR w r x)) : Calls Tryz.prog 17 #[raftV r x] w (Start w r) := by
  have HC := Lib.hid (fun W (hb : Below w.heap.size w W) => copied_calls r x W (Lib.hid (h.out.bel hb)))
  obtain ⟨id, conf, term, vote, role, leader, b, bt, es, snap, commit, left, wait, votes, next, mtch⟩ := r
  obtain ⟨cA, cc, eA, ec, vA, vc, nA, nc, mA, mc, oA, oc⟩ := x
  have HB1 := Lib.hid (bel_new (Below.refl w.heap.size w) (.cells #[.int .i64 id, .slice cA conf.length cc, .int .i64 term, .int .i64 vote, .int .i64 role, .int .i64 leader, .int .i64 b, .int .i64 bt, .slice eA es.length ec, .string snap, .int .i64 commit, .int .i64 left, .int .i64 wait, .slice vA votes.length vc, .slice nA next.length nc, .slice mA mtch.length mc] 28))
  have hz : ∀ i, (w.alloc (.cells #[.int .i64 id, .slice cA conf.length cc, .int .i64 term, .int .i64 vote, .int .i64 role, .int .i64 leader, .int .i64 b, .int .i64 bt, .slice eA es.length ec, .string snap, .int .i64 commit, .int .i64 left, .int .i64 wait, .slice vA votes.length vc, .slice nA next.length nc, .slice mA mtch.length mc] 28)).cell? ⟨w.heap.size, i, none⟩ = (#[.int .i64 id, .slice cA conf.length cc, .int .i64 term, .int .i64 vote, .int .i64 role, .int .i64 leader, .int .i64 b, .int .i64 bt, .slice eA es.length ec, .string snap, .int .i64 commit, .int .i64 left, .int .i64 wait, .slice vA votes.length vc, .slice nA next.length nc, .slice mA mtch.length mc] : Array Value)[i]? := (Blk.new w 28 #[.int .i64 id, .slice cA conf.length cc, .int .i64 term, .int .i64 vote, .int .i64 role, .int .i64 leader, .int .i64 b, .int .i64 bt, .slice eA es.length ec, .string snap, .int .i64 commit, .int .i64 left, .int .i64 wait, .slice vA votes.length vc, .slice nA next.length nc, .slice mA mtch.length mc]).cells
  go_enter Tryz.func17, Tryz.ntmps17
  go_wp2_with fail
  refine (HC.out _ HB1.out).mono ?_
  rintro e w2 ⟨⟨⟨cA', cc', eA', ec', vA', vc', nA', nc', mA', mc', oA', oc'⟩, col, rfl, hR⟩, hb⟩
  have HR := Lib.hid hR
  have HB2 := Lib.hid (bel_tr HB1.out hb)
  clear hR hb HB1 hz HC
  go_wp2_with fail
  go_ret
  have hbn := bel_new (Below.refl w2.heap.size w2) (.cells (nodeC ⟨id, conf, term, vote, role, leader, b, bt, es, snap, commit, left, wait, votes, next, mtch⟩ ⟨cA', cc', eA', ec', vA', vc', nA', nc', mA', mc', none, 0⟩ 0) 53)
  refine ⟨⟨w2.heap.size, ⟨cA', cc', eA', ec', vA', vc', nA', nc', mA', mc', none, 0⟩, recol col w2.heap.size 1, rfl, HB2.out.size, recol_new (Nat.le_refl _), ?_, ?_⟩, ?_⟩
  · exact Blk.new w2 _ _
  · exact ((HR.out.low (by rw [size_alloc]; omega)).recol 1).bel hbn
  · exact bel_tr HB2.out hbn

/-- what a method answers: a node in new memory, and what is sent -/
def Ans (w : World) (r : Nod) (Ms : List Msg) (e : Ending) (w' : World) : Prop :=
  (∃ x col LV, e = .returned (.tuple #[raftV r x, .slice x.oA LV.length x.oc]) ∧ LV.map (·.m) = Ms ∧ Rest w.heap.size col r x LV w') ∧ Below w.heap.size w w'
end Go.Proofs.YtdladjgdhnkkcaaGreat
