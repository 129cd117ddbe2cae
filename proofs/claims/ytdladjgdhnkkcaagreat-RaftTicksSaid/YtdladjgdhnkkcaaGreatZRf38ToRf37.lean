
/-
  2 texts in one.
  Conditions: stated lemma by lemma.
-/
import Derived.Test.YtdladjgdhnkkcaaGreatZRf36
import Derived.Test.YtdladjgdhnkkcaaGreatZRf28ToRg11
import Derived.Deep.RegionHeld3
/-
  Contract of the reference: equal lists of messages are the same.
  Conditions: both can be read.
-/
namespace Go.Proofs.YtdladjgdhnkkcaaGreat
open Go.RowKit
set_option linter.unusedVariables false
set_option linter.unusedSimpArgs false
set_option maxHeartbeats 4000000

/-- messages that can be read, their entries too -/
structure RdM (w : World) (A : Option Addr) (l : List MsgV) : Prop where
  row : RdL layM w A l
  ents : ∀ y ∈ l, RdE w y.A y.m.es
  small : ∀ y ∈ l, y.m.es.length ≤ 9223372036854775807
theorem RdM.bel {w w' : World} {A : Option Addr} {l : List MsgV} (h : RdM w A l) (hb : Below w.heap.size w w') : RdM w' A l := ⟨h.row.bel hb, fun y hy => (h.ents y hy).bel hb, h.small⟩
set_option maxRecDepth 100000 in
theorem rmessages_calls (A B : Option Addr) (cap cap' : Nat) (l l' : List MsgV) (w : World) (h : Hid (RdM w A l)) (k : Hid (RdM w B l')) (he : Hid (l.map (·.m) = l'.map (·.m))) (hl : l.length ≤ 9223372036854775807) :
    Calls Tryz.prog 9 #[.slice A l.length cap, .slice B l'.length cap'] w fun e w' => e = .returned (.bool true) ∧ Below w.heap.size w w' := by
  have hll : l'.length = l.length := by have := congrArg List.length he.out; simpa using this.symm
  rw [hll]
  have HL := Lib.hid hll
  clear hll
  go_enter Tryz.func9, Tryz.ntmps9
  go_wp2_with fail
  go_loopg [5] l.length (fun g v5 W => ∃ i : Nat, v5 = .int .i64 i ∧ g + i = l.length ∧ Hid (Below w.heap.size w W))
  case atStart => exact ⟨0, rfl, rfl, Lib.hid (Below.refl _ _)⟩
  case round =>
    obtain ⟨i, rfl, hgi, HI⟩ := hrel
    by_cases hi : i < l.length
    · have hil : (i : Int) < (l.length : Int) := by omega
      obtain ⟨n, rfl⟩ : ∃ n, gk = n + 1 := ⟨gk - 1, by omega⟩
      obtain ⟨b1, o1, rfl, hb1, c1⟩ := (h.out.row.bel HI.out) i hi
      have hi' : i < l'.length := by have := HL.out; omega
      obtain ⟨b2, o2, rfl, hb2, c2⟩ := (k.out.row.bel HI.out) i hi'
      have hm : (l.getD i default).m = (l'.getD i default).m := by
        have := congrArg (fun z => z[i]?) he.out
        simpa [List.getD, hi, hi'] using this
      have hmem1 : l.getD i default ∈ l := by simp [List.getD, hi]
      have hmem2 : l'.getD i default ∈ l' := by simp [List.getD, hi']
      have HE1 := Lib.hid ((h.out.ents _ hmem1).bel HI.out)
      have HE2 := Lib.hid ((k.out.ents _ hmem2).bel HI.out)
      have hsm := h.out.small _ hmem1
      generalize l.getD i default = y1 at *
      generalize l'.getD i default = y2 at *
      obtain ⟨m, A1, k1⟩ := y1
      obtain ⟨m2, A2, k2⟩ := y2
      obtain rfl : m = m2 := hm
      have d10 : ∀ (z : InS (Sb wr)), z.val.cell? ⟨b1, o1 + i * 10, none⟩ = some (.int .i64 m.kind) := fun z => (z.ok.cell (p := ⟨b1, o1 + i * 10 + 0, none⟩) hb1).trans (c1 0 _ rfl)
      have d11 : ∀ (z : InS (Sb wr)), z.val.cell? ⟨b1, o1 + i * 10 + 1, none⟩ = some (.int .i64 m.src) := fun z => (z.ok.cell (p := ⟨b1, o1 + i * 10 + 1, none⟩) hb1).trans (c1 1 _ rfl)
      have d12 : ∀ (z : InS (Sb wr)), z.val.cell? ⟨b1, o1 + i * 10 + 2, none⟩ = some (.int .i64 m.dst) := fun z => (z.ok.cell (p := ⟨b1, o1 + i * 10 + 2, none⟩) hb1).trans (c1 2 _ rfl)
      have d13 : ∀ (z : InS (Sb wr)), z.val.cell? ⟨b1, o1 + i * 10 + 3, none⟩ = some (.int .i64 m.term) := fun z => (z.ok.cell (p := ⟨b1, o1 + i * 10 + 3, none⟩) hb1).trans (c1 3 _ rfl)
      have d14 : ∀ (z : InS (Sb wr)), z.val.cell? ⟨b1, o1 + i * 10 + 4, none⟩ = some (.int .i64 m.index) := fun z => (z.ok.cell (p := ⟨b1, o1 + i * 10 + 4, none⟩) hb1).trans (c1 4 _ rfl)
      have d15 : ∀ (z : InS (Sb wr)), z.val.cell? ⟨b1, o1 + i * 10 + 5, none⟩ = some (.int .i64 m.lterm) := fun z => (z.ok.cell (p := ⟨b1, o1 + i * 10 + 5, none⟩) hb1).trans (c1 5 _ rfl)
      have d16 : ∀ (z : InS (Sb wr)), z.val.cell? ⟨b1, o1 + i * 10 + 6, none⟩ = some (.int .i64 m.commit) := fun z => (z.ok.cell (p := ⟨b1, o1 + i * 10 + 6, none⟩) hb1).trans (c1 6 _ rfl)
      have d17 : ∀ (z : InS (Sb wr)), z.val.cell? ⟨b1, o1 + i * 10 + 7, none⟩ = some (.bool m.yes) := fun z => (z.ok.cell (p := ⟨b1, o1 + i * 10 + 7, none⟩) hb1).trans (c1 7 _ rfl)
      have d18 : ∀ (z : InS (Sb wr)), z.val.cell? ⟨b1, o1 + i * 10 + 8, none⟩ = some (.slice A1 m.es.length k1) := fun z => (z.ok.cell (p := ⟨b1, o1 + i * 10 + 8, none⟩) hb1).trans (c1 8 _ rfl)
      have d19 : ∀ (z : InS (Sb wr)), z.val.cell? ⟨b1, o1 + i * 10 + 9, none⟩ = some (.string m.data) := fun z => (z.ok.cell (p := ⟨b1, o1 + i * 10 + 9, none⟩) hb1).trans (c1 9 _ rfl)
      have d20 : ∀ (z : InS (Sb wr)), z.val.cell? ⟨b2, o2 + i * 10, none⟩ = some (.int .i64 m.kind) := fun z => (z.ok.cell (p := ⟨b2, o2 + i * 10 + 0, none⟩) hb2).trans (c2 0 _ rfl)
      have d21 : ∀ (z : InS (Sb wr)), z.val.cell? ⟨b2, o2 + i * 10 + 1, none⟩ = some (.int .i64 m.src) := fun z => (z.ok.cell (p := ⟨b2, o2 + i * 10 + 1, none⟩) hb2).trans (c2 1 _ rfl)
      have d22 : ∀ (z : InS (Sb wr)), z.val.cell? ⟨b2, o2 + i * 10 + 2, none⟩ = some (.int .i64 m.dst) := fun z => (z.ok.cell (p := ⟨b2, o2 + i * 10 + 2, none⟩) hb2).trans (c2 2 _ rfl)
      have d23 : ∀ (z : InS (Sb wr)), z.val.cell? ⟨b2, o2 + i * 10 + 3, none⟩ = some (.int .i64 m.term) := fun z => (z.ok.cell (p := ⟨b2, o2 + i * 10 + 3, none⟩) hb2).trans (c2 3 _ rfl)
      have d24 : ∀ (z : InS (Sb wr)), z.val.cell? ⟨b2, o2 + i * 10 + 4, none⟩ = some (.int .i64 m.index) := fun z => (z.ok.cell (p := ⟨b2, o2 + i * 10 + 4, none⟩) hb2).trans (c2 4 _ rfl)
      have d25 : ∀ (z : InS (Sb wr)), z.val.cell? ⟨b2, o2 + i * 10 + 5, none⟩ = some (.int .i64 m.lterm) := fun z => (z.ok.cell (p := ⟨b2, o2 + i * 10 + 5, none⟩) hb2).trans (c2 5 _ rfl)
      have d26 : ∀ (z : InS (Sb wr)), z.val.cell? ⟨b2, o2 + i * 10 + 6, none⟩ = some (.int .i64 m.commit) := fun z => (z.ok.cell (p := ⟨b2, o2 + i * 10 + 6, none⟩) hb2).trans (c2 6 _ rfl)
      have d27 : ∀ (z : InS (Sb wr)), z.val.cell? ⟨b2, o2 + i * 10 + 7, none⟩ = some (.bool m.yes) := fun z => (z.ok.cell (p := ⟨b2, o2 + i * 10 + 7, none⟩) hb2).trans (c2 7 _ rfl)
      have d28 : ∀ (z : InS (Sb wr)), z.val.cell? ⟨b2, o2 + i * 10 + 8, none⟩ = some (.slice A2 m.es.length k2) := fun z => (z.ok.cell (p := ⟨b2, o2 + i * 10 + 8, none⟩) hb2).trans (c2 8 _ rfl)
      have d29 : ∀ (z : InS (Sb wr)), z.val.cell? ⟨b2, o2 + i * 10 + 9, none⟩ = some (.string m.data) := fun z => (z.ok.cell (p := ⟨b2, o2 + i * 10 + 9, none⟩) hb2).trans (c2 9 _ rfl)
      have HME := Lib.hid (fun (z : InS (Sb wr)) => rmessage_calls m A1 A2 k1 k2 z.val (Lib.hid (HE1.out.bel z.ok)) (Lib.hid (HE2.out.bel z.ok)) hsm)
      have hwi : IntKind.i64.wrap (i : Int) = (i : Int) := IntWalk.i64_in _ (by omega)
      clear hmem1 hmem2 HE1 HE2
      go_upto_region 6 with (fail)
      have SX : Sb wr wr.drew := Below.drew (Below.refl _ _)
      have hne : Nonempty (InS (Sb wr)) := ⟨⟨_, SX⟩⟩
      refine wp_region_in (Sb wr) (by kernel_rfl) (by kernel_rfl) SX ?_
      repeat (go_big_quiet_step ((go_at_call 36; exact calls_in_bel (fun _ _ h k => bel_tr h k) (HME.out _))))
      first | refine wpQuiet_nil ?_ | go_big_quiet_step (fail)
      intro W2 hW
      have HW2 := Lib.hid (bel_tr HI.out (in_ok hW))
      clear hW SX hne HME c1 c2 hb1 hb2 d10 d11 d12 d13 d14 d15 d16 d17 d18 d19 d20 d21 d22 d23 d24 d25 d26 d27 d28 d29
      go_wp2_with fail
      go_roundg n
      case rel => exact ⟨i + 1, by go_num, by omega, HW2⟩
      case measure => omega
    · have hil : ¬ (i : Int) < (l.length : Int) := by omega
      go_wp2_with fail
      go_ret
      exact ⟨rfl, HI.out⟩
end Go.Proofs.YtdladjgdhnkkcaaGreat

/-
  What was answered is written over: what stays of it and of all beside it.
  Conditions: stated lemma by lemma.
-/
namespace Go.Proofs.YtdladjgdhnkkcaaGreat
open Go.RowKit
set_option linter.unusedVariables false
set_option linter.unusedSimpArgs false
set_option linter.unusedSectionVars false

theorem cellsE_cons (e : En) (es : List En) : cellsE (e :: es) = .int .i64 e.1 :: .string e.2 :: cellsE es := rfl
theorem cellsE_set : ∀ (es : List En) (j : Nat) (k : Int), (cellsE es).set (j * 2) (.int .i64 k) = cellsE (es.set j (k, (es.getD j default).2))
  | [], j, k => by simp [cellsE]
  | e :: es, 0, k => by simp [cellsE_cons]
  | e :: es, j + 1, k => by
    rw [List.set_cons_succ, cellsE_cons, cellsE_cons, show (j + 1) * 2 = j * 2 + 1 + 1 from by omega, List.set_cons_succ, List.set_cons_succ, cellsE_set es j k]
    simp
theorem cellsE_put : ∀ (es : List En) (j : Nat) (e : En), ((cellsE es).set (j * 2) (.int .i64 e.1)).set (j * 2 + 1) (.string e.2) = cellsE (es.set j e)
  | [], j, e => by simp [cellsE]
  | y :: es, 0, e => by simp [cellsE_cons]
  | y :: es, j + 1, e => by
    rw [List.set_cons_succ, cellsE_cons, cellsE_cons, show (j + 1) * 2 = j * 2 + 1 + 1 from by omega, List.set_cons_succ, List.set_cons_succ, List.set_cons_succ, List.set_cons_succ, cellsE_put es j e]
theorem cellsE_made (n : Nat) : (madeCells (Value.agg #[.int .i64 0, .string ByteArray.empty]).cells (n * 2)).toList = cellsE (List.replicate n (0, ByteArray.empty)) := by
  have hc : (Value.agg #[.int .i64 0, .string ByteArray.empty]).cells = #[.int .i64 0, .string ByteArray.empty] := rfl
  rw [hc]
  apply List.ext_getElem?
  intro j
  by_cases hj : j < n * 2
  · obtain ⟨h1, h2⟩ := cellsE_get (List.replicate n ((0, ByteArray.empty) : En)) (j / 2) (by simp; omega)
    have e0 : (List.replicate n ((0, ByteArray.empty) : En)).getD (j / 2) default = (0, ByteArray.empty) := by simp [List.getD, show j / 2 < n by omega]
    rw [e0] at h1 h2
    rcases Nat.mod_two_eq_zero_or_one j with h0 | h0
    · rw [show j / 2 * 2 = j from by omega] at h1
      rw [h1]
      simp [madeCells, hj, h0]
    · rw [show j / 2 * 2 + 1 = j from by omega] at h2
      rw [h2]
      simp [madeCells, hj, h0]
  · rw [List.getElem?_eq_none (by simp [madeCells]; omega), List.getElem?_eq_none (by rw [cellsE_len]; simp; omega)]
section
variable {w w' : World} {base g n cap : Nat} {es : List En} {v : Value}
theorem OwnE.len_eq (h : OwnE w base (.slice (some ⟨g, 0, none⟩) n cap) es) : n = es.length := by
  rcases h.2 with ⟨e, _⟩ | ⟨g', cap', cur, e, _⟩
  · cases e
  · injection e
theorem OwnE.term (h : OwnE w base (.slice (some ⟨g, 0, none⟩) n cap) es) (j : Nat) (k : Int) :
    OwnE (w.setCell ⟨g, j * 2, none⟩ (.int .i64 k)) base (.slice (some ⟨g, 0, none⟩) n cap) (es.set j (k, (es.getD j default).2)) ∧ w.grownBy (w.setCell ⟨g, j * 2, none⟩ (.int .i64 k)) (some g) := by
  have hn := h.len_eq
  subst hn
  have h1 := World.ownsRow.stored h (j * 2) (.int .i64 k)
  refine ⟨?_, h1.2⟩
  unfold OwnE
  rw [← cellsE_set, List.length_set]
  exact h1.1
theorem OwnE.putE (h : OwnE w base (.slice (some ⟨g, 0, none⟩) n cap) es) (j : Nat) (e : En) :
    OwnE ((w.setCell ⟨g, j * 2, none⟩ (.int .i64 e.1)).setCell ⟨g, j * 2 + 1, none⟩ (.string e.2)) base (.slice (some ⟨g, 0, none⟩) n cap) (es.set j e) := by
  have hn := h.len_eq
  subst hn
  have h1 := World.ownsRow.stored h (j * 2) (.int .i64 e.1)
  have h2 := World.ownsRow.stored h1.1 (j * 2 + 1) (.string e.2)
  unfold OwnE
  rw [← cellsE_put, List.length_set]
  exact h2.1
theorem OwnE.atE (h : OwnE w base (.slice (some ⟨g, 0, none⟩) n cap) es) (j : Nat) (hj : j < es.length) :
    w.cell? ⟨g, j * 2, none⟩ = some (.int .i64 (es.getD j default).1) ∧ w.cell? ⟨g, j * 2 + 1, none⟩ = some (.string (es.getD j default).2) ∧ w.frozen? ⟨g, j * 2, none⟩ = false ∧ w.frozen? ⟨g, j * 2 + 1, none⟩ = false := by
  have hn := h.len_eq
  subst hn
  obtain ⟨A, c, e, _, hR, _⟩ := h.form
  injection e with e _ _
  subst e
  obtain ⟨b, off, e, hb, c1, c2⟩ := hR j hj
  injection e with e
  injection e with e1 e2 _
  subst e1; subst e2
  rw [Nat.zero_add] at c1 c2
  exact ⟨c1, c2, World.ownsRow.frozenAt h _, World.ownsRow.frozenAt h _⟩
/-- a row of entries stays one, whatever term is written into whatever block -/
theorem OwnE.any (h : OwnE w base v es) (g j : Nat) (k : Int) : ∃ es', es'.length = es.length ∧ OwnE (w.setCell ⟨g, j * 2, none⟩ (.int .i64 k)) base v es' := by
  by_cases hv : v.ownBlock = some g
  · rcases h.2 with ⟨rfl, _⟩ | ⟨g', cap, cur, rfl, _⟩
    · cases hv
    · injection hv with hv
      subst hv
      exact ⟨_, by simp, (h.term j k).1⟩
  · exact ⟨es, rfl, ownsRow_setCell_other h (a := ⟨g, j * 2, none⟩) hv _⟩
end

/-- what was answered, written over: lists of the same lengths, each in blocks of its own colour -/
structure Scr (lo : Nat) (col : Nat → Nat) (r : Nod) (x : NdX) (LV : List MsgV) (W : World) : Prop where
  conf : OwnL (layI .i64) 3 W lo (.slice x.cA r.conf.length x.cc) r.conf
  confc : Col col 6 (.slice x.cA r.conf.length x.cc)
  es : ∃ es', es'.length = r.es.length ∧ OwnE W lo (.slice x.eA r.es.length x.ec) es'
  esc : Col col 0 (.slice x.eA r.es.length x.ec)
  next : ∃ ns, ns.length = r.next.length ∧ OwnL (layI .i64) 2 W lo (.slice x.nA r.next.length x.nc) ns
  nextc : Col col 3 (.slice x.nA r.next.length x.nc)
  out : OwnL layM 30 W lo (.slice x.oA LV.length x.oc) LV
  outc : Col col 5 (.slice x.oA LV.length x.oc)
  ents : ∀ y ∈ LV, (∃ es', es'.length = y.m.es.length ∧ OwnE W lo (.slice y.A y.m.es.length y.cap) es') ∧ Col col 0 (.slice y.A y.m.es.length y.cap)
section
variable {lo : Nat} {col : Nat → Nat} {r : Nod} {x : NdX} {LV : List MsgV} {W W' : World} {g : Nat}
theorem Rest.scr (h : Rest lo col r x LV W) : Scr lo col r x LV W :=
  ⟨h.conf, h.confc, ⟨_, rfl, h.es.1⟩, h.es.2, ⟨_, rfl, h.next⟩, h.nextc, h.out, h.outc, fun y hy => ⟨⟨_, rfl, (h.ents y hy).2.1⟩, (h.ents y hy).2.2⟩⟩
theorem Scr.bel (h : Scr lo col r x LV W) (hb : Below W.heap.size W W') : Scr lo col r x LV W' :=
  { h with
    conf := h.conf.kept hb, es := (by obtain ⟨e, h1, h2⟩ := h.es; exact ⟨e, h1, h2.kept hb⟩), next := (by obtain ⟨e, h1, h2⟩ := h.next; exact ⟨e, h1, h2.kept hb⟩), out := h.out.kept hb,
    ents := fun y hy => by obtain ⟨⟨e, h1, h2⟩, h3⟩ := h.ents y hy; exact ⟨⟨e, h1, h2.kept hb⟩, h3⟩ }
theorem Scr.set0 (h : Scr lo col r x LV W) (hc : col g = 0) (j : Nat) (k : Int) : Scr lo col r x LV (W.setCell ⟨g, j * 2, none⟩ (.int .i64 k)) := by
  have ho : Only col 0 W (W.setCell ⟨g, j * 2, none⟩ (.int .i64 k)) := .set (p := ⟨g, j * 2, none⟩) hc _
  exact { h with
    conf := h.conf.only h.confc (by decide) ho, es := by obtain ⟨e, h1, h2⟩ := h.es; obtain ⟨e', k1, k2⟩ := h2.any g j k; exact ⟨e', k1.trans h1, k2⟩,
    next := (by obtain ⟨e, h1, h2⟩ := h.next; exact ⟨e, h1, h2.only h.nextc (by decide) ho⟩), out := h.out.only h.outc (by decide) ho,
    ents := fun y hy => by obtain ⟨⟨e, h1, h2⟩, h3⟩ := h.ents y hy; obtain ⟨e', k1, k2⟩ := h2.any g j k; exact ⟨⟨e', k1.trans h1, k2⟩, h3⟩ }
theorem Scr.set3 (h : Scr lo col r x LV W) (hc : col g = 3) (he : x.nA = some ⟨g, 0, none⟩) (j : Nat) (k : Int) : Scr lo col r x LV (W.setCell ⟨g, j, none⟩ (.int .i64 k)) := by
  have ho : Only col 3 W (W.setCell ⟨g, j, none⟩ (.int .i64 k)) := .set (p := ⟨g, j, none⟩) hc _
  exact { h with
    conf := h.conf.only h.confc (by decide) ho, es := by obtain ⟨e, h1, h2⟩ := h.es; exact ⟨e, h1, OwnE.row.2 ((OwnE.row.1 h2).only h.esc (by decide) ho)⟩,
    next := (by obtain ⟨e, h1, h2⟩ := h.next; rw [he] at h2 ⊢; exact ⟨e.set j k, by simpa using h1, h2.put j k⟩), out := h.out.only h.outc (by decide) ho,
    ents := fun y hy => by obtain ⟨⟨e, h1, h2⟩, h3⟩ := h.ents y hy; exact ⟨⟨e, h1, OwnE.row.2 ((OwnE.row.1 h2).only h3 (by decide) ho)⟩, h3⟩ }
end

/-- while what was answered is written over: below lo all is as it was, and from hi on what there was -/
structure Ov (w5 w8 : World) (lo hi : Nat) (W : World) : Prop where
  bel : Below lo w5 W
  size : w8.heap.size ≤ W.heap.size
  high : ∀ b, b < w8.heap.size → hi ≤ b → W.heap[b]? = w8.heap[b]?
section
variable {w5 w8 W W' : World} {lo hi g : Nat}
theorem Ov.set (h : Ov w5 w8 lo hi W) (h1 : lo ≤ g) (h2 : g < hi) (i : Nat) (u : Value) : Ov w5 w8 lo hi (W.setCell ⟨g, i, none⟩ u) :=
  ⟨h.bel.setCell h1 u, by have := h.size; simpa using this, fun b hb hh => (Below.heap_setCell W ⟨g, i, none⟩ u b (by show b ≠ g; omega)).trans (h.high b hb hh)⟩
theorem Ov.keep (h : Ov w5 w8 lo hi W) (hb : Below W.heap.size W W') (hlo : lo ≤ W.heap.size) : Ov w5 w8 lo hi W' :=
  ⟨h.bel.trans (hb.mono hlo), Nat.le_trans h.size hb.size, fun b k1 k2 => (hb.block b (Nat.lt_of_lt_of_le k1 h.size)).trans (h.high b k1 k2)⟩
theorem Ov.grown (h : Ov w5 w8 lo hi W) {o : Option Nat} (hg : W.grownBy W' o) (hlo : lo ≤ W.heap.size) (ho : ∀ k, o = some k → lo ≤ k ∧ (k < hi ∨ w8.heap.size ≤ k)) : Ov w5 w8 lo hi W' :=
  ⟨h.bel.grown hg hlo (fun k e => (ho k e).1), Nat.le_trans h.size hg.size, fun b k1 k2 => (hg.block b (Nat.lt_of_lt_of_le k1 h.size) (fun e => by
    have := (ho b e.symm).2
    omega)).trans (h.high b k1 k2)⟩
/-- what was made from hi on is as it was -/
theorem Ov.rest (h : Ov w5 w8 lo hi W) {base : Nat} {col : Nat → Nat} {r : Nod} {x : NdX} {L : List MsgV} (hr : Rest base col r x L w8) (hb : hi ≤ base) : Rest base (lowCol base col) r x L W :=
  hr.lowCol.only1 ⟨h.size, fun b k1 k2 => h.high b k1 (by
    rcases Nat.lt_or_ge b base with hl | hl
    · exact absurd (lowCol_lt hl) k2
    · omega)⟩
theorem Ov.blk (h : Ov w5 w8 lo hi W) {t : TypeId} {cs : Array Value} (hB : Blk w8 g t cs) (hg : hi ≤ g) : Blk W g t cs := (h.high g hB.lt hg).trans hB
end
namespace Rf
theorem sz_of {r : Nod} (h : Base r) (k : Role r) : Sz r :=
  ⟨by have := (Qm.chk_asc h.conf).2.2; omega, by have := es_le h; omega, by have := votes_le h k; omega, next_le h k, mtch_le h k⟩
theorem handle_sz {r : Nod} (h : Sz r) (m : Msg) : Sz (handle r m).1 := by
  by_cases hc : chk r = true
  · obtain ⟨hb, hr⟩ := (chk_iff r).1 hc
    obtain ⟨g, k, _⟩ := handle_go hb hr m
    exact sz_of g.base k
  · have e : handle r m = (r, []) := by unfold handle; rw [if_neg (by simp [hc])]
    rw [e]; exact h
theorem tick_sz {r : Nod} (h : Sz r) (d : Int) : Sz (tick r d).1 := by
  by_cases hc : chk r = true
  · obtain ⟨hb, hr⟩ := (chk_iff r).1 hc
    obtain ⟨g, k, _⟩ := tick_go hb hr d
    exact sz_of g.base k
  · have e : tick r d = (r, []) := by unfold tick; rw [if_neg hc]
    rw [e]; exact h
end Rf
/-- what is answered can be read -/
theorem Rest.rd_of {base : Nat} {col : Nat → Nat} {r : Nod} {x : NdX} {L : List MsgV} {w : World} (h : Rest base col r x L w) (z : Sz r) : RdR w r x := h.rdR z.conf z.es z.votes z.next z.mtch
theorem Rest.rdM {base : Nat} {col : Nat → Nat} {r : Nod} {x : NdX} {L : List MsgV} {w : World} (h : Rest base col r x L w) : RdM w x.oA L ∧ L.length ≤ 9223372036854775807 := by
  obtain ⟨_, h1, h2, h3⟩ := h.out.rd
  refine ⟨⟨h1, fun y hy => (h.ents y hy).2.rd, fun y hy => ?_⟩, by unfold maxLen at h3; omega⟩
  obtain ⟨_, _, k2, k3⟩ := (OwnE.row.1 (h.ents y hy).2.1).rd
  unfold maxLen at k3
  omega
end Go.Proofs.YtdladjgdhnkkcaaGreat
