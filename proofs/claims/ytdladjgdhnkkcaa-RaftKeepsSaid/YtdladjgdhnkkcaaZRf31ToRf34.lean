
/-
  4 texts in one.
  Conditions: stated lemma by lemma.
-/
import Derived.Test.YtdladjgdhnkkcaaZRf30
import Derived.Test.YtdladjgdhnkkcaaZTrMToTrB
import Derived.Test.YtdladjgdhnkkcaaZQ4ToQ7
import Derived.Test.YtdladjgdhnkkcaaZRfDToRfL
import Derived.Deep.RegionHeld3
/-
  Arguments of the laws on nodes: a node, a message, a script.
  No condition.
-/
namespace Go.Proofs.Ytdladjgdhnkkcaa
open Go.ChangeShapes Go.WideShapes Go.ChangeAt Go.RowKit Go.Deep
set_option linter.unusedVariables false
set_option linter.unusedSimpArgs false

section
variable {H : Type} {enc : TypeId × Value → H} {w : World} {base : Nat} {held : Bool}
theorem leaf_entries {ts : List TypeId} {vs : List Value} (h : Leaf enc Try.prog w base (fun _ => true) held (22 :: ts) vs) :
    ∃ A es cap vs', vs = .slice A (List.length es) cap :: vs' ∧ List.length es ≤ cap ∧ cap ≤ 6000000000000 ∧ RdE w A es ∧ Leaf enc Try.prog w base (fun _ => true) held ts vs' := by
  cases vs with
  | nil => simp [Leaf] at h
  | cons v vs =>
    obtain ⟨⟨m, y, hy, hw'⟩, hr⟩ := h
    obtain ⟨A, len, cap, e, h1, _, h2, h4⟩ := open_elems (n := 2) (ts := [2, 9]) Try.underlying22 (by kernel_rfl) (by kernel_rfl) (by simp) hy hw'
    obtain ⟨es, rfl, hR⟩ := of_elems h1 h4
    injection e with e
    subst e
    exact ⟨A, es, cap, vs, rfl, h1, by rw [show Try.prog.bytesOf 32 = 24 from by kernel_rfl] at h2; unfold reachBytes at h2; omega, hR, hr⟩
theorem leaf_nums {t e : TypeId} (hu : Try.prog.underlying t = some (.slice e)) (hi : Try.prog.underlying e = some (.int .i64)) (hl : leaves Try.prog 1 e = some [e]) (hc : 1 = Try.prog.cellsOf e) (hb : Try.prog.bytesOf e = 8)
    {ts : List TypeId} {vs : List Value} (h : Leaf enc Try.prog w base (fun _ => true) held (t :: ts) vs) :
    ∃ A ks cap vs', vs = .slice A (List.length ks) cap :: vs' ∧ List.length ks ≤ cap ∧ cap ≤ 20000000000000 ∧ RdI w A ks ∧ Leaf enc Try.prog w base (fun _ => true) held ts vs' := by
  cases vs with
  | nil => simp [Leaf] at h
  | cons v vs =>
    obtain ⟨⟨m, y, hy, hw'⟩, hr⟩ := h
    obtain ⟨A, len, cap, e1, h1, _, h2, h4⟩ := open_elems (n := 1) (ts := [e]) hu hl hc (by simp) hy hw'
    injection e1 with e1
    subst e1
    have hx : ∀ i, i < cap → ∃ x : Int, ∃ b off, A = some ⟨b, off, none⟩ ∧ b < w.heap.size ∧ w.cell? ⟨b, off + i * 1, none⟩ = some (.int .i64 x) := fun i hi' => by
      obtain ⟨b, off, vs, rfl, hb, _, hc, hl⟩ := h4 i hi'
      obtain ⟨k, vs1, rfl, _, hl⟩ := leaf_int hi hl
      have g0 := hc 0 _ rfl
      exact ⟨k, b, off, rfl, hb, g0⟩
    have e0 : ∀ i, i < len → ((List.range len).map fun i => if hi : i < cap then (hx i hi).choose else default).getD i default = if hi : i < cap then (hx i hi).choose else default := fun i hi => by
      simp [List.getD, hi]
    refine ⟨A, (List.range len).map fun i => if hi : i < cap then (hx i hi).choose else default, cap, vs, by simp, by simpa using h1, by rw [hb] at h2; unfold reachBytes at h2; omega, fun i hi => ?_, hr⟩
    have hi' : i < len := by simpa using hi
    obtain ⟨b, off, e, hb, g0⟩ := (hx i (by omega)).choose_spec
    rw [e0 i hi', dif_pos (show i < cap by omega)]
    refine ⟨b, off, e, hb, fun r u hu => ?_⟩
    rcases r with _ | r
    · simp only [layI, List.getElem?_cons_zero, Option.some.injEq] at hu; rw [← hu]; exact g0
    · simp [layI] at hu
theorem leaf_ints {ts : List TypeId} {vs : List Value} (h : Leaf enc Try.prog w base (fun _ => true) held (45 :: ts) vs) :
    ∃ A ks cap vs', vs = .slice A (List.length ks) cap :: vs' ∧ List.length ks ≤ cap ∧ cap ≤ 20000000000000 ∧ RdI w A ks ∧ Leaf enc Try.prog w base (fun _ => true) held ts vs' :=
  leaf_nums Try.underlying45 Try.underlying3 (by kernel_rfl) (by kernel_rfl) (by kernel_rfl) h
theorem leaf_int64s {ts : List TypeId} {vs : List Value} (h : Leaf enc Try.prog w base (fun _ => true) held (46 :: ts) vs) :
    ∃ A ks cap vs', vs = .slice A (List.length ks) cap :: vs' ∧ List.length ks ≤ cap ∧ cap ≤ 20000000000000 ∧ RdI w A ks ∧ Leaf enc Try.prog w base (fun _ => true) held ts vs' :=
  leaf_nums Try.underlying46 Try.underlying2 (by kernel_rfl) (by kernel_rfl) (by kernel_rfl) h

set_option maxRecDepth 100000 in
/-- a node as an argument -/
theorem raft_arg {b0 : Nat} {v : Value} {d : DataW H} {p : List MemPlace}
    (hv : Value.okWide Try.prog w .any b0 48 v) (h : DataW.Trod enc Try.prog w base (fun _ => true) held 48 v d p) (hw : (d.weights Try.prog 48).all (· ≤ reachBytes) = true) :
    ∃ r x, v = raftV r x ∧ RdR w r x := by
  obtain ⟨vs, rfl, hl⟩ := open_arg (n := 3) (ts := [3, 45, 2, 3, 3, 3, 2, 2, 22, 9, 2, 3, 3, 45, 46, 46]) Try.underlying48 (by kernel_rfl) hv h hw
  obtain ⟨id, vs, rfl, _, hl⟩ := leaf_int Try.underlying3 hl
  obtain ⟨cA, conf, cc, vs, rfl, c1, c2, c3, hl⟩ := leaf_ints hl
  obtain ⟨term, vs, rfl, _, hl⟩ := leaf_int Try.underlying2 hl
  obtain ⟨vote, vs, rfl, _, hl⟩ := leaf_int Try.underlying3 hl
  obtain ⟨role, vs, rfl, _, hl⟩ := leaf_int Try.underlying3 hl
  obtain ⟨leader, vs, rfl, _, hl⟩ := leaf_int Try.underlying3 hl
  obtain ⟨b, vs, rfl, _, hl⟩ := leaf_int Try.underlying2 hl
  obtain ⟨bt, vs, rfl, _, hl⟩ := leaf_int Try.underlying2 hl
  obtain ⟨eA, es, ec, vs, rfl, e1, e2, e3, hl⟩ := leaf_entries hl
  obtain ⟨snap, vs, rfl, _, _, hl⟩ := leaf_string Try.underlying9 hl
  obtain ⟨commit, vs, rfl, _, hl⟩ := leaf_int Try.underlying2 hl
  obtain ⟨left, vs, rfl, _, hl⟩ := leaf_int Try.underlying3 hl
  obtain ⟨wait, vs, rfl, _, hl⟩ := leaf_int Try.underlying3 hl
  obtain ⟨vA, votes, vc, vs, rfl, v1, v2, v3, hl⟩ := leaf_ints hl
  obtain ⟨nA, next, nc, vs, rfl, n1, n2, n3, hl⟩ := leaf_int64s hl
  obtain ⟨mA, mtch, mc, vs, rfl, m1, m2, m3, hl⟩ := leaf_int64s hl
  obtain rfl := leaf_nil hl
  exact ⟨⟨id, conf, term, vote, role, leader, b, bt, es, snap, commit, left, wait, votes, next, mtch⟩, ⟨cA, cc, eA, ec, vA, vc, nA, nc, mA, mc, none, 0⟩, rfl,
    { conf := c3, confl := c1, confc := by show cc ≤ _; omega, conf2 := by show conf.length ≤ _; omega, es := e3, esl := e1, es2 := by show es.length ≤ _; omega, votes := v3, votesl := v1, votes2 := by show votes.length ≤ _; omega,
      next := n3, nextl := n1, next2 := by show next.length ≤ _; omega, mtch := m3, mtchl := m1, mtch2 := by show mtch.length ≤ _; omega }⟩
end
end Go.Proofs.Ytdladjgdhnkkcaa

/-
  Arguments of the laws on nodes: messages, a script.
  No condition.
-/
namespace Go.Proofs.Ytdladjgdhnkkcaa
open Go.ChangeShapes Go.WideShapes Go.ChangeAt Go.RowKit Go.Deep
set_option linter.unusedVariables false
set_option linter.unusedSimpArgs false

/-- what comes to a node -/
structure DoW where
  kd : Int
  dr : Int
  m : Msg
  A : Option Addr
  cap : Nat
  s : ByteArray
  to : Int
instance : Inhabited DoW := ⟨⟨0, 0, default, none, 0, ByteArray.empty, 0⟩⟩
def DoW.cells (d : DoW) : List Value := [.int .i64 d.kd, .int .i64 d.dr, .int .i64 d.m.kind, .int .i64 d.m.src, .int .i64 d.m.dst, .int .i64 d.m.term, .int .i64 d.m.index, .int .i64 d.m.lterm, .int .i64 d.m.commit, .bool d.m.yes, .slice d.A d.m.es.length d.cap, .string d.m.data, .string d.s, .int .i64 d.to]
def layDo : Lay DoW := ⟨14, DoW.cells, fun _ => rfl, by decide, fun x u hu => by
  simp only [DoW.cells, List.mem_cons, List.not_mem_nil, or_false] at hu
  rcases hu with rfl | rfl | rfl | rfl | rfl | rfl | rfl | rfl | rfl | rfl | rfl | rfl | rfl | rfl <;> rfl⟩
/-- its parts can be read -/
structure DoW.Ok (w : World) (d : DoW) : Prop where
  es : RdE w d.A d.m.es
  esl : d.m.es.length ≤ d.cap
  es2 : d.m.es.length ≤ 9223372036854775807
  d0 : -9223372036854775808 ≤ d.dr
  d1 : d.dr ≤ 9223372036854775807
  s2 : d.s.size ≤ 9223372036854775807
theorem DoW.Ok.bel {w w' : World} {d : DoW} (h : d.Ok w) (hb : Below w.heap.size w w') : d.Ok w' := { h with es := h.es.bel hb }

section
variable {H : Type} {enc : TypeId × Value → H} {w : World} {base : Nat} {held : Bool}
/-- elements that are read one by one -/
theorem rdL_of {α : Type} [Inhabited α] {L : Lay α} {A : Option Addr} {len cap : Nat} (hlc : len ≤ cap) {G : α → Prop}
    (hx : ∀ i, i < cap → ∃ x : α, G x ∧ ∃ b off, A = some ⟨b, off, none⟩ ∧ b < w.heap.size ∧ ∀ r u, (L.cells x)[r]? = some u → w.cell? ⟨b, off + i * L.k + r, none⟩ = some u) :
    ∃ xs : List α, xs.length = len ∧ RdL L w A xs ∧ ∀ i, i < xs.length → G (xs.getD i default) := by
  have e0 : ∀ i, i < len → ((List.range len).map fun i => if hi : i < cap then (hx i hi).choose else default).getD i default = if hi : i < cap then (hx i hi).choose else default := fun i hi => by
    simp [List.getD, hi]
  refine ⟨(List.range len).map fun i => if hi : i < cap then (hx i hi).choose else default, by simp, fun i hi => ?_, fun i hi => ?_⟩
  · have hi' : i < len := by simpa using hi
    obtain ⟨_, b, off, e, hb, hc⟩ := (hx i (by omega)).choose_spec
    rw [e0 i hi', dif_pos (show i < cap by omega)]
    exact ⟨b, off, e, hb, hc⟩
  · have hi' : i < len := by simpa using hi
    rw [e0 i hi', dif_pos (show i < cap by omega)]
    exact (hx i (by omega)).choose_spec.1

theorem at_list {w : World} {b n : Nat} {vs : List Value} (hc : ∀ j v, vs[j]? = some v → w.cell? ⟨b, n + j, none⟩ = some v) {l : List Value} (hl : l = vs) : ∀ r u, l[r]? = some u → w.cell? ⟨b, n + r, none⟩ = some u := fun r u hu => hc r u (by rw [← hl]; exact hu)

/-- the leaves of a message -/
theorem leaf_msg {ts : List TypeId} {vs : List Value} (h : Leaf enc Try.prog w base (fun _ => true) held (3 :: 3 :: 3 :: 2 :: 2 :: 2 :: 2 :: 4 :: 22 :: 9 :: ts) vs) :
    ∃ (m : Msg) (A : Option Addr) (cap : Nat) (vs' : List Value), vs = [.int .i64 m.kind, .int .i64 m.src, .int .i64 m.dst, .int .i64 m.term, .int .i64 m.index, .int .i64 m.lterm, .int .i64 m.commit, .bool m.yes, .slice A m.es.length cap, .string m.data] ++ vs' ∧
      m.es.length ≤ cap ∧ cap ≤ 6000000000000 ∧ RdE w A m.es ∧ Leaf enc Try.prog w base (fun _ => true) held ts vs' := by
  obtain ⟨k, vs, rfl, _, hl⟩ := leaf_int Try.underlying3 h
  obtain ⟨src, vs, rfl, _, hl⟩ := leaf_int Try.underlying3 hl
  obtain ⟨dst, vs, rfl, _, hl⟩ := leaf_int Try.underlying3 hl
  obtain ⟨term, vs, rfl, _, hl⟩ := leaf_int Try.underlying2 hl
  obtain ⟨index, vs, rfl, _, hl⟩ := leaf_int Try.underlying2 hl
  obtain ⟨lterm, vs, rfl, _, hl⟩ := leaf_int Try.underlying2 hl
  obtain ⟨commit, vs, rfl, _, hl⟩ := leaf_int Try.underlying2 hl
  obtain ⟨yes, vs, rfl, hl2⟩ := leaf_bool Try.underlying4 hl
  obtain ⟨A, es, cap, vs, rfl, e1, e2, e3, hl⟩ := leaf_entries hl2
  obtain ⟨data, vs, rfl, _, _, hl⟩ := leaf_string Try.underlying9 hl
  exact ⟨⟨k, src, dst, term, index, lterm, commit, yes, es, data⟩, A, cap, vs, rfl, e1, e2, e3, hl⟩

set_option maxRecDepth 100000 in
/-- a script as an argument -/
theorem script_arg {b0 : Nat} {v : Value} {d : DataW H} {p : List MemPlace}
    (hv : Value.okWide Try.prog w .any b0 49 v) (h : DataW.Trod enc Try.prog w base (fun _ => true) held 49 v d p) (hw : (d.weights Try.prog 49).all (· ≤ reachBytes) = true) :
    ∃ A xs cap, v = .slice A (List.length xs) cap ∧ List.length xs ≤ cap ∧ cap ≤ 20000000000000 ∧ RdL layDo w A xs ∧ ∀ i, i < xs.length → (xs.getD i default).Ok w := by
  obtain ⟨A, len, cap, rfl, h1, _, h2, h4⟩ := open_arg_slice (n := 3) (ts := [3, 3, 3, 3, 3, 2, 2, 2, 2, 4, 22, 9, 9, 2]) Try.underlying49 (by kernel_rfl) (by kernel_rfl) (by simp) hv h hw
  obtain ⟨xs, rfl, hR, hG⟩ := rdL_of (L := layDo) (w := w) (A := A) h1 (G := fun d => d.Ok w) (fun i hi => by
    obtain ⟨b, off, vs, rfl, hb, _, hc, hl⟩ := h4 i hi
    obtain ⟨kd, vs, rfl, _, hl⟩ := leaf_int Try.underlying3 hl
    obtain ⟨dr, vs, rfl, hd, hl⟩ := leaf_int Try.underlying3 hl
    obtain ⟨m, B, bc, vs, rfl, e1, e2, e3, hl⟩ := leaf_msg hl
    obtain ⟨s, vs, rfl, _, hs, hl⟩ := leaf_string Try.underlying9 hl
    obtain ⟨to, vs, rfl, _, hl⟩ := leaf_int Try.underlying2 hl
    obtain rfl := leaf_nil hl
    have hdd : -9223372036854775808 ≤ dr ∧ dr ≤ 9223372036854775807 := by simp [Lit.wf, IntKind.min, IntKind.max, IntKind.signed, IntKind.bits] at hd; exact hd
    exact ⟨⟨kd, dr, m, B, bc, s, to⟩, ⟨e3, e1, by show m.es.length ≤ _; omega, hdd.1, hdd.2, by unfold reachBytes at hs; show s.size ≤ _; omega⟩, b, off, rfl, hb, at_list hc rfl⟩)
  exact ⟨A, xs, cap, rfl, h1, by rw [show Try.prog.bytesOf 55 = 144 from by kernel_rfl] at h2; unfold reachBytes at h2; omega, hR, hG⟩
end
end Go.Proofs.Ytdladjgdhnkkcaa

/-
  A right node stays right, whatever comes; the plain law.
  Conditions: the node is right.
-/
namespace Go.Proofs.Ytdladjgdhnkkcaa
set_option linter.unusedVariables false

namespace Rf
/-- what holds behind whatever comes -/
structure Stays (r s : Nod) (kd : Int) : Prop where
  base : Base s
  role : Role s
  id : s.id = r.id
  conf : s.conf = r.conf
  term : r.term ≤ s.term
  vote : s.term = r.term → r.vote ≠ 0 → s.vote = r.vote
  kept : 0 ≤ kd → kd ≤ 3 → r.commit ≤ s.commit ∧ Kept r s
  lead : r.role = 2 → s.role = 2 → s.term = r.term → Tr.lastN r.b r.bt r.es ≤ Tr.lastN s.b s.bt s.es
theorem Stays.of {r s : Nod} {kd : Int} (h : Base r) (g : Go r s) (k : Role s) (l : r.role = 2 → s.role = 2 → s.term = r.term → r.b + r.es.length ≤ s.b + s.es.length) : Stays r s kd :=
  ⟨g.base, k, g.id, g.conf, g.term, g.vote, fun _ _ => ⟨g.com, g.kept⟩, fun a b c => by rw [lastN_eq h.trail, lastN_eq g.base.trail]; exact l a b c⟩
theorem does_go {r : Nod} (h : Base r) (k : Role r) (kd dr : Int) (m : Msg) (s : ByteArray) (to : Int) : Stays r (does r kd dr m s to) kd := by
  unfold does
  split
  · obtain ⟨g, k1, l⟩ := tick_go h k dr
    exact .of h g k1 (fun a _ _ => l a)
  split
  · obtain ⟨g, k1, l⟩ := handle_go h k { m with dst := r.id }
    exact .of h g k1 l
  split
  · obtain ⟨g, k1, l⟩ := propose_go h k s
    exact .of h g k1 (fun _ _ _ => l)
  split
  · obtain ⟨g, k1, l⟩ := compact_go h k to s
    exact .of h g k1 (fun _ _ _ => l)
  · rename_i h0 h1 h2 h3
    obtain ⟨g, k1⟩ := restart_go h
    exact ⟨g, k1, rfl, rfl, Int.le_refl _, fun _ _ => rfl, fun a b => by omega, fun _ b _ => by cases b⟩
theorem Stays.chk {r s : Nod} {kd : Int} (h : Stays r s kd) : Rf.chk s = true := (chk_iff s).2 ⟨h.base, h.role⟩
theorem next_le {r : Nod} (h : Base r) (k : Role r) : r.next.length ≤ 20000000000000 := by
  have hc := (Qm.chk_asc h.conf).2.2
  rcases k with ⟨_, _, e, _⟩ | ⟨_, _, e, _⟩ | ⟨_, _, c⟩
  · rw [e]; simp
  · rw [e]; simp
  · rw [c.next]; omega
theorem mtch_le {r : Nod} (h : Base r) (k : Role r) : r.mtch.length ≤ 20000000000000 := by
  have hc := (Qm.chk_asc h.conf).2.2
  rcases k with ⟨_, _, _, e⟩ | ⟨_, _, _, e⟩ | ⟨_, _, c⟩
  · rw [e]; simp
  · rw [e]; simp
  · rw [c.mtch]; omega
end Rf
end Go.Proofs.Ytdladjgdhnkkcaa

/-
  What the laws on nodes share: a node that can be read whatever stands in one block; messages as arguments; one voice a term, plain.
  Conditions: stated lemma by lemma.
-/
namespace Go.Proofs.Ytdladjgdhnkkcaa
open Go.ChangeShapes Go.WideShapes Go.ChangeAt Go.RowKit Go.Deep
set_option linter.unusedVariables false
set_option linter.unusedSimpArgs false

/-- a node that can be read, whatever stands in block g -/
def RdX (g : Nat) (W : World) (r : Nod) (x : NdX) : Prop := ∀ cs, RdR (W.setRow g cs) r x
section
variable {g base : Nat} {W W' : World} {r : Nod} {x : NdX} {t : TypeId} {old : Array Value} {col : Nat → Nat} {L : List MsgV}
theorem RdX.rd (h : RdX g W r x) (hB : Blk W g t old) : RdR W r x := by have := h old; rwa [setRow_self W g old t (0, 0) hB] at this
theorem RdX.bel (h : RdX g W r x) (hB : Blk W g t old) (hb : Below W.heap.size W W') : RdX g W' r x := fun cs => (h cs).bel ⟨hb.os, hb.tape, hb.output, by rw [setRow_size, setRow_size]; exact hb.size, fun k hk => by
  rw [setRow_size] at hk
  by_cases e : k = g
  · subst e
    rw [(hB.bel hb).rowSame cs, hB.rowSame cs]
  · rw [setRow_other _ _ _ _ e, setRow_other _ _ _ _ e]
    exact hb.block k hk⟩
theorem RdX.row (h : RdX g W r x) (cs : Array Value) : RdX g (W.setRow g cs) r x := fun cs' => by rw [setRow_setRow]; exact h cs'
theorem Rest.rdX (h : Rest base col r x L W) (hg : g < base) (z : Sz r) : RdX g W r x := fun cs => (Rest.row1 h.lowCol (lowCol_lt hg) cs).rdR z.conf z.es z.votes z.next z.mtch
end
/-- one of two comes up -/
theorem wpAnyH_two {P : Program} {ops : Array Oper} {Q : Exit → Act → World → Prop} {md : Region.Mode} {S : World → Prop} {i j : Nat} {o p : Oper} {fuel : Nat} {listed : Array Bool} {a : Act} {w : World} (hr : Region.ready md ops listed = [i, j]) (ho : ops[i]? = some o) (hp : ops[j]? = some p) (hg : o.guard = none) (hg2 : p.guard = none)
    (h : ∀ K : Act → World → Prop, (∀ a' w', S w' → wpAnyH P md ops Q S fuel (listed.setIfInBounds i true) a' w' → K a' w') → o.wp P a w K Q)
    (h2 : ∀ K : Act → World → Prop, (∀ a' w', S w' → wpAnyH P md ops Q S fuel (listed.setIfInBounds j true) a' w' → K a' w') → p.wp P a w K Q) : wpAnyH P md ops Q S (fuel + 1) listed a w := by
  refine wpAnyH_all hr (by simp) fun k hk => ?_
  rcases (by simpa using hk : k = i ∨ k = j) with rfl | rfl
  · refine wpOp_step ho fun K hK => ?_
    have hw : Region.wanted o (yielded ops a.tmps) = true := by simp [Region.wanted, hg]
    rw [if_pos hw]
    exact h K fun a' w' hS hW => hK a' w' ⟨hS, hW⟩
  · refine wpOp_step hp fun K hK => ?_
    have hw : Region.wanted p (yielded ops a.tmps) = true := by simp [Region.wanted, hg2]
    rw [if_pos hw]
    exact h2 K fun a' w' hS hW => hK a' w' ⟨hS, hW⟩


/-- a message that came as an argument: its entries can be read -/
def MsgV.Ok (w : World) (y : MsgV) : Prop := y.m.es.length ≤ y.cap ∧ RdE w y.A y.m.es ∧ y.m.es.length ≤ 9223372036854775807
theorem MsgV.Ok.bel {w w' : World} {y : MsgV} (h : y.Ok w) (hb : Below w.heap.size w w') : y.Ok w' := ⟨h.1, h.2.1.bel hb, h.2.2⟩
section
variable {H : Type} {enc : TypeId × Value → H} {w : World} {base : Nat} {held : Bool}
set_option maxRecDepth 100000 in
/-- messages as an argument -/
theorem msgs_arg {b0 : Nat} {v : Value} {d : DataW H} {p : List MemPlace}
    (hv : Value.okWide Try.prog w .any b0 72 v) (h : DataW.Trod enc Try.prog w base (fun _ => true) held 72 v d p) (hw : (d.weights Try.prog 72).all (· ≤ reachBytes) = true) :
    ∃ A xs cap, v = .slice A (List.length xs) cap ∧ List.length xs ≤ cap ∧ cap ≤ 20000000000000 ∧ RdL layM w A xs ∧ ∀ i, i < xs.length → (xs.getD i default).Ok w := by
  obtain ⟨A, len, cap, rfl, h1, _, h2, h4⟩ := open_arg_slice (n := 3) (ts := [3, 3, 3, 2, 2, 2, 2, 4, 22, 9]) Try.underlying72 (by kernel_rfl) (by kernel_rfl) (by simp) hv h hw
  obtain ⟨xs, rfl, hR, hG⟩ := rdL_of (L := layM) (w := w) (A := A) h1 (G := fun y => y.Ok w) (fun i hi => by
    obtain ⟨b, off, vs, rfl, hb, _, hc, hl⟩ := h4 i hi
    obtain ⟨m, B, bc, vs, rfl, e1, e2, e3, hl⟩ := leaf_msg hl
    obtain rfl := leaf_nil hl
    exact ⟨⟨m, B, bc⟩, ⟨e1, e3, by show m.es.length ≤ _; omega⟩, b, off, rfl, hb, at_list hc rfl⟩)
  exact ⟨A, xs, cap, rfl, h1, by rw [show Try.prog.bytesOf 53 = 104 from by kernel_rfl] at h2; unfold reachBytes at h2; omega, hR, hG⟩
end
namespace Rf
/-- a voice that is given is the node's own vote in its term, and the first one -/
def Voice (r s : Nod) (l : Msg) : Prop := l.kind = 2 → l.yes = true → s.vote = l.dst ∧ l.term = s.term ∧ (r.term = s.term → r.vote ≠ 0 → r.vote = s.vote)
theorem handle_voice (r : Nod) (m : Msg) (hk : m.kind = 1) : ∀ l ∈ (handle r m).2, Voice r (handle r m).1 l := by
  unfold handle
  split
  · split
    · intro l hl
      unfold late at hl
      rw [if_pos hk] at hl
      obtain rfl := List.mem_singleton.1 hl
      intro _ hy
      cases hy
    · rename_i hlt
      intro l hl
      unfold same at hl ⊢
      rw [if_pos hk] at hl ⊢
      unfold ask at hl ⊢
      obtain rfl := List.mem_singleton.1 hl
      intro _ hy
      have hy' : yes (newer r m) m = true := hy
      rw [if_pos hy']
      refine ⟨rfl, rfl, ?_⟩
      unfold newer at hy' ⊢
      split
      · intro e _
        rename_i h2
        simp only at e
        omega
      · rename_i h2
        rw [if_neg h2] at hy'
        intro _ hv
        unfold yes at hy'
        simp only [Bool.and_eq_true, decide_eq_true_eq] at hy'
        rcases hy'.1.1 with h | h
        · exact absurd h hv
        · exact h
  · intro l hl
    cases hl
end Rf
end Go.Proofs.Ytdladjgdhnkkcaa
