
/-
  A node of a group in memory: its cells, its lists, what it sends; what other blocks' changes leave of it.
  Conditions: stated lemma by lemma.
-/
import Derived.Test.YtdladjgdhnkkcaaGreatZRfL
import Derived.Test.YtdladjgdhnkkcaaGreatZTrM
import Derived.Test.YtdladjgdhnkkcaaGreatZRowToRow2
import Derived.Test.YtdladjgdhnkkcaaGreatZQPToQ6
namespace Go.Proofs.YtdladjgdhnkkcaaGreat
open Go.RowKit
set_option linter.unusedVariables false
set_option linter.unusedSimpArgs false
set_option linter.unusedSectionVars false

/-- a message in memory -/
structure MsgV where
  m : Msg
  A : Option Addr
  cap : Nat
instance : Inhabited MsgV := ⟨⟨default, none, 0⟩⟩
def MsgV.cells (x : MsgV) : List Value := [.int .i64 x.m.kind, .int .i64 x.m.src, .int .i64 x.m.dst, .int .i64 x.m.term, .int .i64 x.m.index, .int .i64 x.m.lterm, .int .i64 x.m.commit, .bool x.m.yes, .slice x.A x.m.es.length x.cap, .string x.m.data]
def layM : Lay MsgV := ⟨10, MsgV.cells, fun _ => rfl, by decide, fun x u hu => by simp only [MsgV.cells, List.mem_cons, List.not_mem_nil, or_false] at hu; rcases hu with rfl | rfl | rfl | rfl | rfl | rfl | rfl | rfl | rfl | rfl <;> rfl⟩
/-- where a node's lists lie -/
structure NdX where
  cA : Option Addr
  cc : Nat
  eA : Option Addr
  ec : Nat
  vA : Option Addr
  vc : Nat
  nA : Option Addr
  nc : Nat
  mA : Option Addr
  mc : Nat
  oA : Option Addr
  oc : Nat
/-- a node as a value -/
abbrev raftV (r : Nod) (x : NdX) : Value := .agg #[.int .i64 r.id, .slice x.cA r.conf.length x.cc, .int .i64 r.term, .int .i64 r.vote, .int .i64 r.role, .int .i64 r.leader, .int .i64 r.b, .int .i64 r.bt, .slice x.eA r.es.length x.ec, .string r.snap, .int .i64 r.commit, .int .i64 r.left, .int .i64 r.wait, .slice x.vA r.votes.length x.vc, .slice x.nA r.next.length x.nc, .slice x.mA r.mtch.length x.mc]
/-- a node with what it sends, cell by cell -/
abbrev nodeC (r : Nod) (x : NdX) (n : Nat) : Array Value := #[.int .i64 r.id, .slice x.cA r.conf.length x.cc, .int .i64 r.term, .int .i64 r.vote, .int .i64 r.role, .int .i64 r.leader, .int .i64 r.b, .int .i64 r.bt, .slice x.eA r.es.length x.ec, .string r.snap, .int .i64 r.commit, .int .i64 r.left, .int .i64 r.wait, .slice x.vA r.votes.length x.vc, .slice x.nA r.next.length x.nc, .slice x.mA r.mtch.length x.mc, .slice x.oA n x.oc]

/-- whatever colour a value's own block has -/
def Col (col : Nat → Nat) (c : Nat) (v : Value) : Prop := ∀ b, v.ownBlock = some b → col b = c
/-- from block n on the colour is c -/
def recol (col : Nat → Nat) (n c : Nat) : Nat → Nat := fun b => if b < n then col b else c
theorem recol_old {col : Nat → Nat} {n c b : Nat} (h : b < n) : recol col n c b = col b := by unfold recol; rw [if_pos h]
theorem recol_new {col : Nat → Nat} {n c b : Nat} (h : n ≤ b) : recol col n c b = c := by unfold recol; rw [if_neg (by omega)]
/-- blocks of other colours than c are as they were -/
def Only (col : Nat → Nat) (c : Nat) (w w' : World) : Prop := w.heap.size ≤ w'.heap.size ∧ ∀ b, b < w.heap.size → col b ≠ c → w'.heap[b]? = w.heap[b]?
theorem Only.bel {col : Nat → Nat} {c : Nat} {w w' : World} (h : Below w.heap.size w w') : Only col c w w' := ⟨h.size, fun b hb _ => h.block b hb⟩
theorem Only.set {col : Nat → Nat} {c : Nat} {w : World} {p : Addr} (h : col p.block = c) (u : Value) : Only col c w (w.setCell p u) :=
  ⟨by simp, fun b _ hc => Below.heap_setCell _ _ _ _ (fun e => hc (by rw [e]; exact h))⟩
theorem Only.grown {col : Nat → Nat} {c : Nat} {w w' : World} {v : Value} (hc : Col col c v) (h : w.grownBy w' v.ownBlock) : Only col c w w' :=
  ⟨h.size, fun b hb hne => h.block b hb (fun e => hne (hc b e.symm))⟩
theorem Only.trans {col : Nat → Nat} {c : Nat} {a w w' : World} (h : Only col c a w) (k : Only col c w w') : Only col c a w' :=
  ⟨Nat.le_trans h.1 k.1, fun b hb hc => (k.2 b (Nat.lt_of_lt_of_le hb h.1) hc).trans (h.2 b hb hc)⟩

section
variable {α : Type} [Inhabited α] {L : Lay α} {w w' : World} {e : TypeId} {base : Nat} {v : Value} {xs : List α} {col : Nat → Nat} {c c' : Nat}
theorem OwnL.only (h : OwnL L e w base v xs) (hc : Col col c' v) (hne : c' ≠ c) (ho : Only col c w w') : OwnL L e w' base v xs := by
  refine ⟨h.1, ?_⟩
  rcases h.2 with hn | ⟨g, cap, cur, rfl, hb, hgg, rest⟩
  · exact .inl hn
  · exact .inr ⟨g, cap, cur, rfl, hb, (ho.2 g (Array.getElem?_eq_some_iff.1 hgg).1 (by rw [hc g rfl]; exact hne)).trans hgg, rest⟩
theorem OwnL.low {b' : Nat} (h : OwnL L e w b' v xs) (hb : base ≤ b') : OwnL L e w base v xs := by
  refine ⟨h.1, ?_⟩
  rcases h.2 with hn | ⟨g, cap, cur, rfl, hg, rest⟩
  · exact .inl hn
  · exact .inr ⟨g, cap, cur, rfl, Nat.le_trans hb hg, rest⟩
theorem OwnL.recol (h : OwnL L e w base v xs) (hc : Col col c' v) (n : Nat) (hn : w.heap.size ≤ n) : Col (recol col n c) c' v := fun b hb => by
  rw [recol_old (Nat.lt_of_lt_of_le (h.lt b hb).2 hn)]
  exact hc b hb
end
/-- entries as elements of a row -/
def layE : Lay En := ⟨2, fun e => [.int .i64 e.1, .string e.2], fun _ => rfl, by decide, fun x u hu => by simp only [List.mem_cons, List.not_mem_nil, or_false] at hu; rcases hu with rfl | rfl <;> rfl⟩
theorem OwnE.row {w : World} {base : Nat} {v : Value} {es : List En} : OwnE w base v es ↔ OwnL layE 68 w base v es := Iff.rfl
/-- entries that the node owns, in a block of colour 0 from base on -/
def RdZ (base : Nat) (col : Nat → Nat) (w : World) (A : Option Addr) (c : Nat) (es : List En) : Prop :=
  OwnE w base (.slice A es.length c) es ∧ Col col 0 (.slice A es.length c)
section
variable {w w' : World} {base : Nat} {A : Option Addr} {es : List En} {col : Nat → Nat} {c cp : Nat}
theorem RdZ.rd (h : RdZ base col w A cp es) : RdE w A es := h.1.rd.2.1
theorem RdZ.le (h : RdZ base col w A cp es) : es.length ≤ cp := h.1.rd.1
theorem RdZ.only (h : RdZ base col w A cp es) (hne : c ≠ 0) (ho : Only col c w w') : RdZ base col w' A cp es := ⟨OwnE.row.2 ((OwnE.row.1 h.1).only h.2 (Ne.symm hne) ho), h.2⟩
theorem RdZ.bel (h : RdZ base col w A cp es) (hb : Below w.heap.size w w') : RdZ base col w' A cp es := h.only (c := 1) (by decide) (.bel hb)
theorem RdZ.recol (h : RdZ base col w A cp es) (n : Nat) (hn : w.heap.size ≤ n) : RdZ base (recol col n c) w A cp es := ⟨h.1, (OwnE.row.1 h.1).recol h.2 n hn⟩
theorem RdZ.nil : RdZ base col w none 0 [] := ⟨OwnE.nil _ _, fun b hb => by cases hb⟩
/-- entries that a callee has made -/
theorem RdZ.new (h : OwnE w' w.heap.size (.slice A es.length cp) es) (hb : base ≤ w.heap.size) : RdZ base (Go.Proofs.YtdladjgdhnkkcaaGreat.recol col w.heap.size 0) w' A cp es :=
  ⟨h.low hb, fun b hb => recol_new (World.ownsRow.lt h b hb).1⟩
end

/-- a node's lists and what it sends, each in blocks of its own colour: entries 0, the node 1, votes 2, next 3, match 4, what is sent 5, the configuration 6 -/
structure Rest (base : Nat) (col : Nat → Nat) (r : Nod) (x : NdX) (L : List MsgV) (w : World) : Prop where
  bs : base ≤ w.heap.size
  conf : OwnL (layI .i64) 3 w base (.slice x.cA r.conf.length x.cc) r.conf
  confc : Col col 6 (.slice x.cA r.conf.length x.cc)
  es : RdZ base col w x.eA x.ec r.es
  votes : OwnL (layI .i64) 3 w base (.slice x.vA r.votes.length x.vc) r.votes
  votesc : Col col 2 (.slice x.vA r.votes.length x.vc)
  next : OwnL (layI .i64) 2 w base (.slice x.nA r.next.length x.nc) r.next
  nextc : Col col 3 (.slice x.nA r.next.length x.nc)
  mtch : OwnL (layI .i64) 2 w base (.slice x.mA r.mtch.length x.mc) r.mtch
  mtchc : Col col 4 (.slice x.mA r.mtch.length x.mc)
  out : OwnL layM 30 w base (.slice x.oA L.length x.oc) L
  outc : Col col 5 (.slice x.oA L.length x.oc)
  ents : ∀ y ∈ L, y.m.es.length ≤ y.cap ∧ RdZ base col w y.A y.cap y.m.es
section
variable {base : Nat} {col : Nat → Nat} {r : Nod} {x : NdX} {L : List MsgV} {w w' : World}
/-- a change of the node's own block -/
theorem Rest.only1 (h : Rest base col r x L w) (ho : Only col 1 w w') : Rest base col r x L w' :=
  ⟨Nat.le_trans h.bs ho.1, h.conf.only h.confc (by decide) ho, h.confc, h.es.only (by decide) ho, h.votes.only h.votesc (by decide) ho, h.votesc, h.next.only h.nextc (by decide) ho, h.nextc, h.mtch.only h.mtchc (by decide) ho, h.mtchc,
    h.out.only h.outc (by decide) ho, h.outc, fun y hy => ⟨(h.ents y hy).1, (h.ents y hy).2.only (by decide) ho⟩⟩
theorem Rest.bel (h : Rest base col r x L w) (hb : Below w.heap.size w w') : Rest base col r x L w' := h.only1 (.bel hb)
theorem Rest.set1 (h : Rest base col r x L w) {p : Addr} (hp : col p.block = 1) (u : Value) : Rest base col r x L (w.setCell p u) := h.only1 (.set hp u)
theorem Rest.recol (h : Rest base col r x L w) (c : Nat) : Rest base (recol col w.heap.size c) r x L w :=
  ⟨h.bs, h.conf, h.conf.recol h.confc _ (Nat.le_refl _), h.es.recol _ (Nat.le_refl _), h.votes, h.votes.recol h.votesc _ (Nat.le_refl _), h.next, h.next.recol h.nextc _ (Nat.le_refl _), h.mtch, h.mtch.recol h.mtchc _ (Nat.le_refl _),
    h.out, h.out.recol h.outc _ (Nat.le_refl _), fun y hy => ⟨(h.ents y hy).1, (h.ents y hy).2.recol _ (Nat.le_refl _)⟩⟩
theorem col_new {α : Type} [Inhabited α] {Ly : Lay α} {e : TypeId} {v v' : Value} {xs : List α} {c : Nat} (h : OwnL Ly e w base v xs) (hc : Col col c v) (h3 : v'.ownBlock = v.ownBlock ∨ v'.ownBlock = some w.heap.size) : Col (Go.Proofs.YtdladjgdhnkkcaaGreat.recol col w.heap.size c) c v' := fun b hb => by
  rcases h3 with h3 | h3
  · rw [h3] at hb
    rw [recol_old (h.lt b hb).2]
    exact hc b hb
  · rw [h3] at hb
    injection hb with hb
    rw [recol_new (by omega)]
/-- one message more -/
theorem Rest.out_put (h : Rest base col r x L w) {A : Option Addr} {c : Nat} {y : MsgV} (ho : OwnL layM 30 w' base (.slice A (L ++ [y]).length c) (L ++ [y])) (hg : w.grownBy w' (Value.slice x.oA L.length x.oc).ownBlock)
    (h3 : (Value.slice A (L ++ [y]).length c).ownBlock = (Value.slice x.oA L.length x.oc).ownBlock ∨ (Value.slice A (L ++ [y]).length c).ownBlock = some w.heap.size) (hy : y.m.es.length ≤ y.cap ∧ RdZ base col w y.A y.cap y.m.es) :
    Rest base (Go.Proofs.YtdladjgdhnkkcaaGreat.recol col w.heap.size 5) r { x with oA := A, oc := c } (L ++ [y]) w' := by
  have hon := Only.grown h.outc hg
  have hon' : Only (Go.Proofs.YtdladjgdhnkkcaaGreat.recol col w.heap.size 5) 5 w w' := ⟨hon.1, fun b hb hc => hon.2 b hb (by rwa [recol_old hb] at hc)⟩
  have k := h.recol 5
  exact ⟨Nat.le_trans h.bs hon.1, k.conf.only k.confc (by decide) hon', k.confc, k.es.only (by decide) hon', k.votes.only k.votesc (by decide) hon', k.votesc, k.next.only k.nextc (by decide) hon', k.nextc, k.mtch.only k.mtchc (by decide) hon', k.mtchc,
    ho, col_new h.out h.outc h3, fun z hz => by
      rcases List.mem_append.1 hz with hz | hz
      · exact ⟨(h.ents z hz).1, (k.ents z hz).2.only (by decide) hon'⟩
      · obtain rfl := List.mem_singleton.1 hz
        exact ⟨hy.1, (hy.2.recol _ (Nat.le_refl _)).only (by decide) hon'⟩⟩
/-- one vote more -/
theorem Rest.votes_put (h : Rest base col r x L w) {A : Option Addr} {c : Nat} {vs : List Int} (ho : OwnL (layI .i64) 3 w' base (.slice A vs.length c) vs) (hg : w.grownBy w' (Value.slice x.vA r.votes.length x.vc).ownBlock)
    (h3 : (Value.slice A vs.length c).ownBlock = (Value.slice x.vA r.votes.length x.vc).ownBlock ∨ (Value.slice A vs.length c).ownBlock = some w.heap.size) :
    Rest base (Go.Proofs.YtdladjgdhnkkcaaGreat.recol col w.heap.size 2) { r with votes := vs } { x with vA := A, vc := c } L w' := by
  have hon := Only.grown h.votesc hg
  have hon' : Only (Go.Proofs.YtdladjgdhnkkcaaGreat.recol col w.heap.size 2) 2 w w' := ⟨hon.1, fun b hb hc => hon.2 b hb (by rwa [recol_old hb] at hc)⟩
  have k := h.recol 2
  exact ⟨Nat.le_trans h.bs hon.1, k.conf.only k.confc (by decide) hon', k.confc, k.es.only (by decide) hon', ho, col_new h.votes h.votesc h3, k.next.only k.nextc (by decide) hon', k.nextc, k.mtch.only k.mtchc (by decide) hon', k.mtchc,
    k.out.only k.outc (by decide) hon', k.outc, fun z hz => ⟨(h.ents z hz).1, (k.ents z hz).2.only (by decide) hon'⟩⟩
/-- a number of next -/
theorem Rest.next_set (h : Rest base col r x L w) {g : Nat} {p : Addr} {u : Value} {ns : List Int} (hl : ns.length = r.next.length) (hp : x.nA = some ⟨g, 0, none⟩) (hq : p.block = g) (ho : OwnL (layI .i64) 2 (w.setCell p u) base (.slice x.nA ns.length x.nc) ns) :
    Rest base col { r with next := ns } x L (w.setCell p u) := by
  have hon : Only col 3 w (w.setCell p u) := .set (h.nextc p.block (by rw [hq, hp]; rfl)) u
  exact ⟨Nat.le_trans h.bs hon.1, h.conf.only h.confc (by decide) hon, h.confc, h.es.only (by decide) hon, h.votes.only h.votesc (by decide) hon, h.votesc, ho, by show Col col 3 (.slice x.nA ns.length x.nc); rw [hl]; exact h.nextc, h.mtch.only h.mtchc (by decide) hon, h.mtchc,
    h.out.only h.outc (by decide) hon, h.outc, fun z hz => ⟨(h.ents z hz).1, (h.ents z hz).2.only (by decide) hon⟩⟩
/-- a number of match -/
theorem Rest.mtch_set (h : Rest base col r x L w) {g : Nat} {p : Addr} {u : Value} {ms : List Int} (hl : ms.length = r.mtch.length) (hp : x.mA = some ⟨g, 0, none⟩) (hq : p.block = g) (ho : OwnL (layI .i64) 2 (w.setCell p u) base (.slice x.mA ms.length x.mc) ms) :
    Rest base col { r with mtch := ms } x L (w.setCell p u) := by
  have hon : Only col 4 w (w.setCell p u) := .set (h.mtchc p.block (by rw [hq, hp]; rfl)) u
  exact ⟨Nat.le_trans h.bs hon.1, h.conf.only h.confc (by decide) hon, h.confc, h.es.only (by decide) hon, h.votes.only h.votesc (by decide) hon, h.votesc, h.next.only h.nextc (by decide) hon, h.nextc, ho, by show Col col 4 (.slice x.mA ms.length x.mc); rw [hl]; exact h.mtchc,
    h.out.only h.outc (by decide) hon, h.outc, fun z hz => ⟨(h.ents z hz).1, (h.ents z hz).2.only (by decide) hon⟩⟩
/-- what stands beside the lists may be anything -/
theorem Rest.plain (h : Rest base col r x L w) (r' : Nod) (h1 : r'.conf = r.conf) (h2 : r'.es = r.es) (h3 : r'.votes = r.votes) (h4 : r'.next = r.next) (h5 : r'.mtch = r.mtch) : Rest base col r' x L w := by
  obtain ⟨id', conf', term', vote', role', leader', b', bt', es', snap', commit', left', wait', votes', next', mtch'⟩ := r'
  simp only at h1 h2 h3 h4 h5
  subst h1; subst h2; subst h3; subst h4; subst h5
  exact { h with }
/-- no votes -/
theorem Rest.votes0 (h : Rest base col r x L w) : Rest base col { r with votes := [] } { x with vA := none, vc := 0 } L w :=
  { h with votes := OwnL.nil _ _, votesc := fun b hb => by cases hb }
theorem Rest.next0 (h : Rest base col r x L w) : Rest base col { r with next := [] } { x with nA := none, nc := 0 } L w :=
  { h with next := OwnL.nil _ _, nextc := fun b hb => by cases hb }
theorem Rest.mtch0 (h : Rest base col r x L w) : Rest base col { r with mtch := [] } { x with mA := none, mc := 0 } L w :=
  { h with mtch := OwnL.nil _ _, mtchc := fun b hb => by cases hb }
/-- another log, made by a callee -/
theorem Rest.log (h : Rest base col r x L w) (hb : Below w.heap.size w w') {A : Option Addr} {c : Nat} {es : List En} (b bt : Int) (hO : OwnE w' w.heap.size (.slice A es.length c) es) :
    Rest base (Go.Proofs.YtdladjgdhnkkcaaGreat.recol col w.heap.size 0) { r with b := b, bt := bt, es := es } { x with eA := A, ec := c } L w' := by
  have k := (h.recol 0).bel hb
  exact { k with es := RdZ.new hO h.bs }
theorem Rest.log0 (h : Rest base col r x L w) (b bt : Int) : Rest base col { r with b := b, bt := bt, es := [] } { x with eA := none, ec := 0 } L w :=
  { h with es := RdZ.nil }
/-- votes, next, match that a callee or a literal has made -/
theorem Rest.votes_new (h : Rest base col r x L w) (hb : Below w.heap.size w w') {A : Option Addr} {c : Nat} {vs : List Int} (ho : OwnL (layI .i64) 3 w' w.heap.size (.slice A vs.length c) vs) :
    Rest base (Go.Proofs.YtdladjgdhnkkcaaGreat.recol col w.heap.size 2) { r with votes := vs } { x with vA := A, vc := c } L w' := by
  have k := (h.recol 2).bel hb
  exact { k with votes := ho.low h.bs, votesc := fun b hb => recol_new (ho.lt b hb).1 }
end
end Go.Proofs.YtdladjgdhnkkcaaGreat
