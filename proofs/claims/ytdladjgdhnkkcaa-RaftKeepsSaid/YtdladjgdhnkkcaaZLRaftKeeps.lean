
/-
  RaftKeeps: what is handed in stays, what is answered is new memory.
  No condition.
-/
import Derived.Test.YtdladjgdhnkkcaaZRf37
import Derived.BigQuiet
import Derived.Deep.Cut
namespace Go.Proofs.Ytdladjgdhnkkcaa.lawRaftKeeps
open Go.ChangeShapes Go.WideShapes Go.ChangeAt Go.RowKit Go.Deep
set_option linter.unusedVariables false
set_option linter.unusedSimpArgs false
set_option maxHeartbeats 20000000

/-- the two arguments that lie in memory -/
structure K0 (w : World) (r : Nod) (x : NdX) (m : Msg) (A : Option Addr) (cap : Nat) (W : World) : Prop where
  bel : Below w.heap.size w W
  b3 : Blk W w.heap.size 48 (raftL r x).toArray
  b4 : Blk W (w.heap.size + 1) 53 #[.int .i64 m.kind, .int .i64 m.src, .int .i64 m.dst, .int .i64 m.term, .int .i64 m.index, .int .i64 m.lterm, .int .i64 m.commit, .bool m.yes, .slice A m.es.length cap, .string m.data]
section
variable {w W W' : World} {r : Nod} {x : NdX} {m : Msg} {A : Option Addr} {cap : Nat}
theorem K0.to (h : K0 w r x m A cap W) (hb : Below W.heap.size W W') : K0 w r x m A cap W' := ⟨bel_tr h.bel hb, h.b3.bel hb, h.b4.bel hb⟩
end
/-- a struct that is laid into a new block -/
theorem boxed (W : World) (t : TypeId) (z cs : Array Value) : Below W.heap.size W ((W.alloc (.cells z t)).setRow W.heap.size cs) ∧ Blk ((W.alloc (.cells z t)).setRow W.heap.size cs) W.heap.size t cs ∧ ((W.alloc (.cells z t)).setRow W.heap.size cs).heap.size = W.heap.size + 1 :=
  ⟨bel_row (bel_new (Below.refl _ _) _) (Nat.le_refl _) _, (Blk.new W t z).rowSame cs, by rw [setRow_size, size_alloc]⟩
/-- both nodes, what was and what is lent -/
structure K1 (w : World) (r : Nod) (x : NdX) (m : Msg) (A : Option Addr) (cap : Nat) (g7 : Nat) (x7 x8 : NdX) (W : World) : Prop where
  k0 : K0 w r x m A cap W
  b7 : Blk W g7 48 (raftL r x7).toArray
  r7 : RdR W r x7
  r8 : RdR W r x8
theorem K1.to {w W W' : World} {r : Nod} {x : NdX} {m : Msg} {A : Option Addr} {cap : Nat} {g7 : Nat} {x7 x8 : NdX} (h : K1 w r x m A cap g7 x7 x8 W) (hb : Below W.heap.size W W') : K1 w r x m A cap g7 x7 x8 W' := ⟨h.k0.to hb, h.b7.bel hb, h.r7.bel hb, h.r8.bel hb⟩
/-- all that has to stay -/
structure K2 (w : World) (r : Nod) (m : Msg) (A : Option Addr) (cap : Nat) (g7 g8 gF : Nat) (x7 x8 : NdX) (W : World) : Prop where
  bel : Below w.heap.size w W
  b4 : Blk W (w.heap.size + 1) 53 #[.int .i64 m.kind, .int .i64 m.src, .int .i64 m.dst, .int .i64 m.term, .int .i64 m.index, .int .i64 m.lterm, .int .i64 m.commit, .bool m.yes, .slice A m.es.length cap, .string m.data]
  b7 : Blk W g7 48 (raftL r x7).toArray
  r7 : RdR W r x7
  b8 : Blk W g8 48 (raftL r x8).toArray
  r8 : RdR W r x8
  fl : gF < W.heap.size
  f1 : W.cell? ⟨gF, r.es.length * 2, none⟩ = some (.int .i64 (-7))
  f2 : W.cell? ⟨gF, (r.es.length + 1) * 2, none⟩ = some (.int .i64 (-7))
theorem K2.to {w W W' : World} {r : Nod} {m : Msg} {A : Option Addr} {cap : Nat} {g7 g8 gF : Nat} {x7 x8 : NdX} (h : K2 w r m A cap g7 g8 gF x7 x8 W) (hb : Below W.heap.size W W') : K2 w r m A cap g7 g8 gF x7 x8 W' :=
  ⟨bel_tr h.bel hb, h.b4.bel hb, h.b7.bel hb, h.r7.bel hb, h.b8.bel hb, h.r8.bel hb, Nat.lt_of_lt_of_le h.fl hb.size, (hb.cell (p := ⟨gF, _, none⟩) h.fl).trans h.f1, (hb.cell (p := ⟨gF, _, none⟩) h.fl).trans h.f2⟩
/-- what was answered first, while it is written over -/
structure K3 (w5 w8 : World) (lo hi gA : Nat) (col : Nat → Nat) (a : Nod) (xa : NdX) (LV : List MsgV) (W : World) : Prop where
  ov : Ov w5 w8 lo hi W
  blk : Blk W gA 48 (raftL a xa).toArray
  scr : Scr lo col a xa LV W
  gl : lo ≤ gA
  gh : gA < hi
  hc : ∀ b, col b ≠ 1 → b < hi
  ga : col gA = 1
  hw : hi ≤ w8.heap.size
theorem K3.set0 {w5 w8 W : World} {lo hi gA g : Nat} {col : Nat → Nat} {a : Nod} {xa : NdX} {LV : List MsgV} (h : K3 w5 w8 lo hi gA col a xa LV W) (hc : col g = 0) (hl : lo ≤ g) (j : Nat) (k : Int) : K3 w5 w8 lo hi gA col a xa LV (W.setCell ⟨g, j * 2, none⟩ (.int .i64 k)) :=
  ⟨h.ov.set hl (h.hc g (by omega)) _ _, h.blk.far (p := ⟨g, j * 2, none⟩) (by show gA ≠ g; intro e; rw [← e, h.ga] at hc; cases hc) _, h.scr.set0 hc j k, h.gl, h.gh, h.hc, h.ga, h.hw⟩
theorem K3.set3 {w5 w8 W : World} {lo hi gA g : Nat} {col : Nat → Nat} {a : Nod} {xa : NdX} {LV : List MsgV} (h : K3 w5 w8 lo hi gA col a xa LV W) (hc : col g = 3) (hl : lo ≤ g) (he : xa.nA = some ⟨g, 0, none⟩) (j : Nat) (k : Int) : K3 w5 w8 lo hi gA col a xa LV (W.setCell ⟨g, j, none⟩ (.int .i64 k)) :=
  ⟨h.ov.set hl (h.hc g (by omega)) _ _, h.blk.far (p := ⟨g, j, none⟩) (by show gA ≠ g; intro e; rw [← e, h.ga] at hc; cases hc) _, h.scr.set3 hc he j k, h.gl, h.gh, h.hc, h.ga, h.hw⟩

theorem rdR_out {w : World} {r : Nod} {x : NdX} {a : Option Addr} {c : Nat} (h : RdR w r { x with oA := a, oc := c }) : RdR w r x := { h with }
theorem fill_step (es : List En) (i k : Nat) (hi : i < es.length) (hk : i < k) (z : En) : (es.take i ++ List.replicate (k - i) z).set i (es.getD i default) = es.take (i + 1) ++ List.replicate (k - (i + 1)) z := by
  have hl : (es.take i).length = i := by simp; omega
  have e : k - i = (k - (i + 1)) + 1 := by omega
  rw [List.set_append, if_neg (by omega), hl, Nat.sub_self, e, List.replicate_succ, List.set_cons_zero, List.take_succ_eq_append_getElem hi, List.append_assoc]
  simp [List.getD, hi]
theorem fill_end (es : List En) (z : En) : es.take es.length ++ List.replicate (es.length + 2 - es.length) z = es ++ [z, z] := by
  rw [List.take_length, show es.length + 2 - es.length = 2 from by omega]; rfl
theorem K3.row {w5 w8 W : World} {lo hi gA : Nat} {col : Nat → Nat} {a : Nod} {xa : NdX} {LV : List MsgV} (h : K3 w5 w8 lo hi gA col a xa LV W) (j : Nat) (hj : j < LV.length) :
    ∃ g0, xa.oA = some ⟨g0, 0, none⟩ ∧ W.cell? ⟨g0, j * 10 + 8, none⟩ = some (.slice (LV.getD j default).A (LV.getD j default).m.es.length (LV.getD j default).cap) := by
  obtain ⟨g0, c, e, _⟩ := h.scr.out.block (by omega)
  injection e with e _ _
  obtain ⟨b, off, e2, _, hc⟩ := h.scr.out.rd.2.1 j hj
  rw [e] at e2
  injection e2 with e2
  injection e2 with e3 e4 _
  subst e3; subst e4
  have := hc 8 _ rfl
  rw [Nat.zero_add] at this
  exact ⟨g0, e, this⟩
/-- what is left of it behind the first append -/
structure K4 (w5 w8 : World) (lo hi gA : Nat) (a : Nod) (xa : NdX) (W : World) : Prop where
  ov : Ov w5 w8 lo hi W
  b1 : W.cell? ⟨gA, 1, none⟩ = some (.slice xa.cA a.conf.length xa.cc)
  f1 : ∀ i, W.frozen? ⟨gA, i, none⟩ = false
  lt : gA < W.heap.size
  conf : OwnL (layI .i64) 3 W lo (.slice xa.cA a.conf.length xa.cc) a.conf
  confh : ∀ k, (Value.slice xa.cA a.conf.length xa.cc).ownBlock = some k → k < hi ∧ k ≠ gA
  gl : lo ≤ gA
  gh : gA < hi
theorem K3.es_app {w5 w8 W W1 w' : World} {lo hi gA : Nat} {col : Nat → Nat} {a : Nod} {xa : NdX} {LV : List MsgV} {es' : List En} (h : K3 w5 w8 lo hi gA col a xa LV W) (hb : Below W.heap.size W W1) (ho : OwnE W lo (.slice xa.eA a.es.length xa.ec) es')
    (hg : W1.grownBy w' (Value.slice xa.eA a.es.length xa.ec).ownBlock) : K4 w5 w8 lo hi gA a xa w' ∧ w'.cell? ⟨gA, 8, none⟩ = some (.slice xa.eA a.es.length xa.ec) ∧ ∀ v, K4 w5 w8 lo hi gA a xa (w'.setCell ⟨gA, 8, none⟩ v) := by
  have hlt := h.blk.lt
  have hg0 : ∀ k, (Value.slice xa.eA a.es.length xa.ec).ownBlock = some k → lo ≤ k ∧ k < hi ∧ k ≠ gA := fun k hk => by
    have h0 := h.scr.esc k hk
    exact ⟨(World.ownsRow.lt ho k hk).1, h.hc k (by omega), fun e => by rw [e, h.ga] at h0; cases h0⟩
  have hlo : lo ≤ W.heap.size := Nat.le_trans h.gl (Nat.le_of_lt hlt)
  have hlo1 : lo ≤ W1.heap.size := Nat.le_trans hlo hb.size
  have hlt1 : gA < W1.heap.size := Nat.lt_of_lt_of_le hlt hb.size
  have hv : Ov w5 w8 lo hi w' := (h.ov.keep hb hlo).grown hg hlo1 (fun k hk => ⟨(hg0 k hk).1, .inl (hg0 k hk).2.1⟩)
  have hB : Blk w' gA 48 (raftL a xa).toArray := (hg.block gA hlt1 (fun e => (hg0 gA e.symm).2.2 rfl)).trans (h.blk.bel hb)
  have hch : ∀ k, (Value.slice xa.cA a.conf.length xa.cc).ownBlock = some k → k < hi ∧ k ≠ gA := fun k hk => by
    have h6 := h.scr.confc k hk
    exact ⟨h.hc k (by omega), fun e => by rw [e, h.ga] at h6; cases h6⟩
  have hC : OwnL (layI .i64) 3 w' lo (.slice xa.cA a.conf.length xa.cc) a.conf := (h.scr.conf.kept hb).only (col := col) (c := 0) h.scr.confc (by decide) (Only.grown h.scr.esc hg)
  have hl' : gA < w'.heap.size := Nat.lt_of_lt_of_le hlt1 hg.size
  refine ⟨⟨hv, hB.cells 1, hB.free, hl', hC, hch, h.gl, h.gh⟩, hB.cells 8, fun v => ⟨hv.set h.gl h.gh _ _, (hB.set 8 v).cells 1, (hB.set 8 v).free, by simpa using hl', ?_, hch, h.gl, h.gh⟩⟩
  exact ownsRow_setCell_other hC (a := ⟨gA, 8, none⟩) (fun e => (hch gA e).2 rfl) _
theorem K4.conf_app {w5 w8 W W1 w' : World} {lo hi gA : Nat} {a : Nod} {xa : NdX} (h : K4 w5 w8 lo hi gA a xa W) (hb : Below W.heap.size W W1) (hg : W1.grownBy w' (Value.slice xa.cA a.conf.length xa.cc).ownBlock) :
    w'.cell? ⟨gA, 1, none⟩ = some (.slice xa.cA a.conf.length xa.cc) ∧ w'.frozen? ⟨gA, 1, none⟩ = false ∧ gA < w'.heap.size ∧ ∀ v, Ov w5 w8 lo hi (w'.setCell ⟨gA, 1, none⟩ v) := by
  have hlo : lo ≤ W.heap.size := Nat.le_trans h.gl (Nat.le_of_lt h.lt)
  have hlo1 : lo ≤ W1.heap.size := Nat.le_trans hlo hb.size
  have hlt1 : gA < W1.heap.size := Nat.lt_of_lt_of_le h.lt hb.size
  have hbk : w'.heap[gA]? = W.heap[gA]? := (hg.block gA hlt1 (fun e => (h.confh gA e.symm).2 rfl)).trans (hb.block gA h.lt)
  refine ⟨(World.cell?_of_block (a := ⟨gA, 1, none⟩) hbk).trans h.b1, (World.frozen?_of_block (a := ⟨gA, 1, none⟩) hbk).trans (h.f1 1), Nat.lt_of_lt_of_le hlt1 hg.size, fun v => ?_⟩
  exact ((h.ov.keep hb hlo).grown hg hlo1 (fun k hk => ⟨(h.conf.lt k hk).1, .inl (h.confh k hk).1⟩)).set h.gl h.gh _ _
/-- a whole block is loaded where the guard lets it -/
theorem wpList_loadG {P : Program} {w : World} {t : TypeId} {cs : Array Value} {ops : Array Oper} {rest : List Oper} {o : Oper} {a : Act} {Q : Exit → Act → World → Prop} (ty : TypeId) (x : Operand) (ho : o.op = .load ty x)
    (g : Nat) (hx : a.eval x = .pointer (some ⟨g, 0, none⟩)) {fs : Array Field} (hB : Blk w g t cs)
    (hu : P.underlying ty = some (.struct fs)) (hi : (P.info? ty).map (·.size) = some cs.size) (hw : Region.wanted o (yielded ops a.tmps) = true)
    (h : wpList P ops Q rest (a.put o.dst (.agg cs)) w) : wpList P ops Q (o :: rest) a w :=
  wpList_step fun K hK => by
    rw [if_pos hw]
    exact wp_load_row ty x ho g hx t cs (0, 0) _ hB hu rfl hi (hK _ _ h)
theorem rdE_one (w : World) (t : Int) (u : ByteArray) : RdE (w.alloc (.cells #[.int .i64 t, .string u] 32)) (some ⟨w.heap.size, 0, none⟩) [(t, u)] := fun i hi => by
  obtain rfl : i = 0 := by simpa using hi
  have hB := Blk.new w 32 #[.int .i64 t, .string u]
  exact ⟨_, 0, rfl, hB.lt, hB.cells 0, hB.cells 1⟩
theorem fill_marks (es : List En) (z e1 e2 : En) : ((es ++ [z, z]).set es.length e1).set (es.length + 1) e2 = es ++ [e1, e2] := by
  rw [List.set_append, if_neg (by omega), Nat.sub_self, List.set_cons_zero, List.set_append, if_neg (by omega), show es.length + 1 - es.length = 1 from by omega]
  rfl
theorem K2.of {w w5 w6 wr : World} {r : Nod} {x x7 x8 : NdX} {m : Msg} {A : Option Addr} {cap g7 n1 : Nat} {z : En} (H5 : K1 w r x m A cap g7 x7 x8 w5) (hb6 : Below w5.heap.size w5 w6) (hl : Blk wr w5.heap.size 48 (raftL r x8).toArray) (hlt : w5.heap.size < w6.heap.size)
    (hb0 : Below w6.heap.size w6 wr) (hf : OwnE wr w6.heap.size (.slice (some ⟨w6.heap.size, 0, none⟩) (r.es.length + 2) (r.es.length + 2)) (r.es ++ [z, z])) (hn1 : n1 = r.es.length + 1) :
    K2 w r m A cap g7 w5.heap.size w6.heap.size x7 { x8 with eA := some ⟨w6.heap.size, 0, none⟩, ec := r.es.length + 2 } (((wr.setCell ⟨w6.heap.size, r.es.length * 2, none⟩ (.int .i64 (-7))).setCell ⟨w6.heap.size, n1 * 2, none⟩ (.int .i64 (-7))).setCell ⟨w5.heap.size, 8, none⟩ (.slice (some ⟨w6.heap.size, 0, none⟩) r.es.length (r.es.length + 2))) := by
  subst hn1
  have hs6 := hb6.size
  have hsr := hb0.size
  have hb := bel_set (bel_set (bel_set (bel_tr hb6 hb0) hs6 (r.es.length * 2) (.int .i64 (-7))) hs6 ((r.es.length + 1) * 2) (.int .i64 (-7))) (Nat.le_refl _) 8 (.slice (some ⟨w6.heap.size, 0, none⟩) r.es.length (r.es.length + 2))
  have k := H5.to hb
  have t1 := (hf.term r.es.length (-7)).1
  have t2 := (t1.term (r.es.length + 1) (-7)).1
  have t3 := t2.set (g := w5.heap.size) (i := 8) (u := .slice (some ⟨w6.heap.size, 0, none⟩) r.es.length (r.es.length + 2)) hlt
  rw [fill_marks] at t3
  obtain ⟨a1, _⟩ := t3.atE r.es.length (by simp)
  obtain ⟨a2, _⟩ := t3.atE (r.es.length + 1) (by simp)
  have e1 : ∀ p q : En, (r.es ++ [p, q]).getD r.es.length default = p := fun p q => by simp [List.getD]
  have e2 : ∀ p q : En, (r.es ++ [p, q]).getD (r.es.length + 1) default = q := fun p q => by simp [List.getD]
  rw [e1] at a1
  rw [e2] at a2
  refine ⟨k.k0.bel, k.k0.b4, k.b7, k.r7, ?_, { k.r8 with es := ?_, esl := by show r.es.length ≤ r.es.length + 2; omega }, ?_, a1, a2⟩
  · have := ((hl.far (p := ⟨w6.heap.size, r.es.length * 2, none⟩) (by show w5.heap.size ≠ w6.heap.size; omega) (.int .i64 (-7))).far (p := ⟨w6.heap.size, (r.es.length + 1) * 2, none⟩) (by show w5.heap.size ≠ w6.heap.size; omega) (.int .i64 (-7))).set 8 (.slice (some ⟨w6.heap.size, 0, none⟩) r.es.length (r.es.length + 2))
    simpa only [raftL, List.setIfInBounds_toArray, List.set_cons_succ, List.set_cons_zero] using this
  · obtain ⟨_, hR, _⟩ := t3.rd
    exact fun i hi => by
      obtain ⟨b, off, e, hb, c1, c2⟩ := hR i (by simp; omega)
      have e3 : (r.es ++ [(-7, ((r.es ++ [z, z]).getD r.es.length default).2), (-7, (((r.es ++ [z, z]).set r.es.length (-7, ((r.es ++ [z, z]).getD r.es.length default).2)).getD (r.es.length + 1) default).2)]).getD i default = r.es.getD i default := by simp [List.getD, List.getElem?_append, hi]
      rw [e3] at c1 c2
      exact ⟨b, off, e, hb, c1, c2⟩
  · have : w6.heap.size < wr.heap.size := by
      obtain ⟨b, off, e, hb, _⟩ := hf.rd.2.1 0 (by simp)
      injection e with e
      injection e with e1 _ _
      omega
    simpa using this
theorem recol_hi {col : Nat → Nat} {n : Nat} (b : Nat) (h : recol col n 1 b ≠ 1) : b < n + 1 := by
  rcases Nat.lt_or_ge b n with hl | hl
  · omega
  · exact absurd (recol_new hl) h
set_option maxRecDepth 100000 in
theorem walk (r : Nod) (x : NdX) (m : Msg) (A : Option Addr) (cap : Nat) (d : Int) (w : World) (h : Hid (RdR w r x)) (hm : Hid (m.es.length ≤ cap ∧ RdE w A m.es)) (hml : m.es.length ≤ 9223372036854775807) (hd0 : -9223372036854775808 ≤ d) (hd1 : d ≤ 9223372036854775807) :
    Calls Try.prog 15 #[raftV r x, msgV m A cap, .int .i64 d] w fun e w' => e = .returned (.bool true) ∧ Below w.heap.size w w' := by
  have HN : Hid (r.es.length ≤ 6000000000000) := Lib.hid h.out.es2
  have HK1 : Hid (K0 w r x m A cap ((w.alloc (.cells #[.int .i64 r.id, .slice x.cA r.conf.length x.cc, .int .i64 r.term, .int .i64 r.vote, .int .i64 r.role, .int .i64 r.leader, .int .i64 r.b, .int .i64 r.bt, .slice x.eA r.es.length x.ec, .string r.snap, .int .i64 r.commit, .int .i64 r.left, .int .i64 r.wait, .slice x.vA r.votes.length x.vc, .slice x.nA r.next.length x.nc, .slice x.mA r.mtch.length x.mc] 48)).alloc (.cells #[.int .i64 m.kind, .int .i64 m.src, .int .i64 m.dst, .int .i64 m.term, .int .i64 m.index, .int .i64 m.lterm, .int .i64 m.commit, .bool m.yes, .slice A m.es.length cap, .string m.data] 53))) := Lib.hid ⟨bel_new (bel_new (Below.refl w.heap.size w) _) _, (Blk.new w _ _).alloc _, Blk.new2 w _ _ _⟩
  go_enter Try.func15, Try.ntmps15
  go_upto_region 1 with (fail)
  generalize (w.alloc (.cells #[.int .i64 r.id, .slice x.cA r.conf.length x.cc, .int .i64 r.term, .int .i64 r.vote, .int .i64 r.role, .int .i64 r.leader, .int .i64 r.b, .int .i64 r.bt, .slice x.eA r.es.length x.ec, .string r.snap, .int .i64 r.commit, .int .i64 r.left, .int .i64 r.wait, .slice x.vA r.votes.length x.vc, .slice x.nA r.next.length x.nc, .slice x.mA r.mtch.length x.mc] 48)).alloc (.cells #[.int .i64 m.kind, .int .i64 m.src, .int .i64 m.dst, .int .i64 m.term, .int .i64 m.index, .int .i64 m.lterm, .int .i64 m.commit, .bool m.yes, .slice A m.es.length cap, .string m.data] 53) = w1 at *
  go_wp2_with fail
  refine (raft_awake w1).mono ?_
  rintro e w2 ⟨rfl, hb2⟩
  have HK2 := Lib.hid (HK1.out.to hb2)
  clear hb2 HK1
  go_upto_region 3 with (fail)
  -- was
  go_wp2_with (refine wpList_loadB rfl 48 (.tmp 3) rfl w.heap.size rfl HK2.out.b3 Try.underlying48 infoR ?_)
  refine (copy14_calls r x w2 (Lib.hid (h.out.bel HK2.out.bel))).mono ?_
  rintro e w3 ⟨⟨x7, col7, rfl, hR7⟩, hb3⟩
  have HK3 := Lib.hid (HK2.out.to hb3)
  have HR7 := Lib.hid (rdR_out (hR7.rdR h.out.conf2 h.out.es2 h.out.votes2 h.out.next2 h.out.mtch2))
  have HX7 := Lib.hid (boxed w3 48 #[.int .i64 0, .slice none 0 0, .int .i64 0, .int .i64 0, .int .i64 0, .int .i64 0, .int .i64 0, .int .i64 0, .slice none 0 0, .string ⟨#[]⟩, .int .i64 0, .int .i64 0, .int .i64 0, .slice none 0 0, .slice none 0 0, .slice none 0 0] (raftL r x7).toArray)
  have HZ7 := Lib.hid (Blk.new w3 48 #[.int .i64 0, .slice none 0 0, .int .i64 0, .int .i64 0, .int .i64 0, .int .i64 0, .int .i64 0, .int .i64 0, .slice none 0 0, .string ⟨#[]⟩, .int .i64 0, .int .i64 0, .int .i64 0, .slice none 0 0, .slice none 0 0, .slice none 0 0])
  clear hR7 hb3 HK2
  go_upto_region 4 with (refine wpList_storeB rfl 48 (.tmp 7) (.tmp 28) rfl w3.heap.size (raftL r x7).toArray rfl rfl HZ7.out infoR rfl (raftL_one _ _) ?_)
  have HK4 := Lib.hid (HK3.out.to HX7.out.1)
  have HR7b := Lib.hid (HR7.out.bel HX7.out.1)
  have HB7 := Lib.hid HX7.out.2.1
  obtain ⟨g7, hg7⟩ : ∃ g7, g7 = w3.heap.size := ⟨_, rfl⟩
  generalize (w3.alloc (.cells #[.int .i64 0, .slice none 0 0, .int .i64 0, .int .i64 0, .int .i64 0, .int .i64 0, .int .i64 0, .int .i64 0, .slice none 0 0, .string ⟨#[]⟩, .int .i64 0, .int .i64 0, .int .i64 0, .slice none 0 0, .slice none 0 0, .slice none 0 0] 48)).setRow w3.heap.size (raftL r x7).toArray = w4 at *
  rw [← hg7] at *
  clear HX7 HZ7 HK3 HR7 hg7
  -- lent
  go_wp2_with (refine wpList_loadB rfl 48 (.tmp 3) rfl w.heap.size rfl HK4.out.b3 Try.underlying48 infoR ?_)
  refine (copy14_calls r x w4 (Lib.hid (h.out.bel HK4.out.bel))).mono ?_
  rintro e w5 ⟨⟨x8, col8, rfl, hR8⟩, hb5⟩
  have HK5 := Lib.hid (show K1 w r x m A cap g7 x7 x8 w5 from ⟨HK4.out.to hb5, HB7.out.bel hb5, HR7b.out.bel hb5, rdR_out (hR8.rdR h.out.conf2 h.out.es2 h.out.votes2 h.out.next2 h.out.mtch2)⟩)
  have HX8 := Lib.hid (boxed w5 48 #[.int .i64 0, .slice none 0 0, .int .i64 0, .int .i64 0, .int .i64 0, .int .i64 0, .int .i64 0, .int .i64 0, .slice none 0 0, .string ⟨#[]⟩, .int .i64 0, .int .i64 0, .int .i64 0, .slice none 0 0, .slice none 0 0, .slice none 0 0] (raftL r x8).toArray)
  have HZ8 := Lib.hid (Blk.new w5 48 #[.int .i64 0, .slice none 0 0, .int .i64 0, .int .i64 0, .int .i64 0, .int .i64 0, .int .i64 0, .int .i64 0, .slice none 0 0, .string ⟨#[]⟩, .int .i64 0, .int .i64 0, .int .i64 0, .slice none 0 0, .slice none 0 0, .slice none 0 0])
  clear hR8 hb5 HK4 HR7b HB7
  go_upto_region 5 with (refine wpList_storeB rfl 48 (.tmp 8) (.tmp 30) rfl w5.heap.size (raftL r x8).toArray rfl rfl HZ8.out infoR rfl (raftL_one _ _) ?_)
  have HB6 := Lib.hid HX8.out.1
  have HL6 := Lib.hid HX8.out.2.1
  generalize (w5.alloc (.cells #[.int .i64 0, .slice none 0 0, .int .i64 0, .int .i64 0, .int .i64 0, .int .i64 0, .int .i64 0, .int .i64 0, .slice none 0 0, .string ⟨#[]⟩, .int .i64 0, .int .i64 0, .int .i64 0, .slice none 0 0, .slice none 0 0, .slice none 0 0] 48)).setRow w5.heap.size (raftL r x8).toArray = w6 at *
  clear HX8 HZ8
  have HR6 : Hid (∀ i, w6.cell? ⟨w.heap.size, i, none⟩ = (#[.int .i64 r.id, .slice x.cA r.conf.length x.cc, .int .i64 r.term, .int .i64 r.vote, .int .i64 r.role, .int .i64 r.leader, .int .i64 r.b, .int .i64 r.bt, .slice x.eA r.es.length x.ec, .string r.snap, .int .i64 r.commit, .int .i64 r.left, .int .i64 r.wait, .slice x.vA r.votes.length x.vc, .slice x.nA r.next.length x.nc, .slice x.mA r.mtch.length x.mc] : Array Value)[i]?) := Lib.hid (HK5.out.k0.to HB6.out).b3.cells
  -- full
  have hn1 : IntKind.i64.wrap ((r.es.length : Int) + 2) = ((r.es.length + 2 : Nat) : Int) := by rw [IntWalk.i64_in _ (by have := HN.out; omega)]; omega
  have hr6 := HR6.out
  obtain ⟨iE, hiE, hzE, hsE, hyE⟩ := info_parts infoE
  have HIE := Lib.hid (And.intro hiE (And.intro hzE (And.intro hsE hyE)))
  clear hiE hzE hsE hyE
  go_upto_region 6 with (first | (refine wpList_make_full (P := Try.prog) w6 rfl (.tmp 35) (.tmp 35) 22 rfl w6.heap.size 32 iE (.agg #[.int .i64 0, .string ByteArray.empty]) 2 Try.underlying22 HIE.out.1 HIE.out.2.1 HIE.out.2.2.1 .i64 .i64 _ _ (r.es.length + 2) rfl rfl (by omega) (by omega) (by rw [HIE.out.2.2.2]; have := HN.out; omega) (by have := HN.out; simp [maxLen]; omega) (Nat.le_refl _) ?_; intro w7 ho7 hg7))
  have HB7 := Lib.hid ((Below.refl w6.heap.size w6).grown hg7 (Nat.le_refl _) (fun k e => by cases e))
  have HF7 : Hid (OwnE w7 w6.heap.size (.slice (some ⟨w6.heap.size, 0, none⟩) (r.es.length + 2) (r.es.length + 2)) (List.replicate (r.es.length + 2) (0, ByteArray.empty))) := Lib.hid (by
    have := ho7
    unfold OwnE
    rw [List.length_replicate, ← cellsE_made]
    exact this)
  clear ho7 hg7 hn1 hr6
  go_wp2_with fail
  go_loopg [10] r.es.length (fun g v10 W => ∃ i : Nat, v10 = .int .i64 i ∧ g + i = r.es.length ∧ Hid (Below w6.heap.size w6 W ∧ OwnE W w6.heap.size (.slice (some ⟨w6.heap.size, 0, none⟩) (r.es.length + 2) (r.es.length + 2)) (r.es.take i ++ List.replicate (r.es.length + 2 - i) (0, ByteArray.empty))))
  case atStart => exact ⟨0, rfl, rfl, Lib.hid ⟨HB7.out, by simpa using HF7.out⟩⟩
  case round =>
    obtain ⟨i, rfl, hgi, HI⟩ := hrel
    have HBI := Lib.hid (bel_tr HB6.out (HI.out.1 : Below w6.heap.size w6 wr))
    have hr6 : ∀ i, wr.cell? ⟨w.heap.size, i, none⟩ = (#[.int .i64 r.id, .slice x.cA r.conf.length x.cc, .int .i64 r.term, .int .i64 r.vote, .int .i64 r.role, .int .i64 r.leader, .int .i64 r.b, .int .i64 r.bt, .slice x.eA r.es.length x.ec, .string r.snap, .int .i64 r.commit, .int .i64 r.left, .int .i64 r.wait, .slice x.vA r.votes.length x.vc, .slice x.nA r.next.length x.nc, .slice x.mA r.mtch.length x.mc] : Array Value)[i]? := ((HK5.out.k0.to HBI.out).b3).cells
    clear HB7 HF7
    by_cases hi : i < r.es.length
    · have hil : (i : Int) < (r.es.length : Int) := by omega
      have hil2 : (i : Int) < (r.es.length : Int) + 2 := by omega
      obtain ⟨n, rfl⟩ : ∃ n, gk = n + 1 := ⟨gk - 1, by omega⟩
      obtain ⟨bl, off, hA, hbl, c1, c2⟩ := ((h.out.es.bel HK5.out.k0.bel).bel HBI.out) i hi
      have k8 : wr.cell? ⟨w.heap.size, 8, none⟩ = some (.slice (some ⟨bl, off, none⟩) r.es.length x.ec) := by rw [← hA]; exact hr6 8
      have HFS := Lib.hid (fill_step r.es i (r.es.length + 2) hi (by omega) (0, ByteArray.empty))
      obtain ⟨f1, f2, f3, f4⟩ := HI.out.2.atE i (by simp; omega)
      have HPE := Lib.hid (HI.out.2.putE i (r.es.getD i default))
      generalize r.es.getD i default = ee at *
      obtain ⟨et, eu⟩ := ee
      clear hA hr6
      have hi1 : (i : Int) + 1 ≤ 9223372036854775807 := by have := HN.out; omega
      go_wp2_with fail
      go_roundg n
      case rel => exact ⟨i + 1, by go_num, by omega, Lib.hid ⟨bel_set (bel_set HI.out.1 (Nat.le_refl _) _ _) (Nat.le_refl _) _ _, by rw [← HFS.out]; exact HPE.out⟩⟩
      case measure => omega
    · have hil : ¬ (i : Int) < (r.es.length : Int) := by omega
      have hie : i = r.es.length := by omega
      have HF0 := Lib.hid HI.out.2
      rw [hie, fill_end] at HF0
      have HB0 := Lib.hid HI.out.1
      have HL0 := Lib.hid (HL6.out.below HI.out.1 (Nat.lt_of_lt_of_le (by show w5.heap.size < w5.heap.size + 1; omega) (by have := HB6.out.size; have := HL6.out.lt; omega)))
      have hl0 : ∀ i, wr.cell? ⟨w5.heap.size, i, none⟩ = (#[.int .i64 r.id, .slice x8.cA r.conf.length x8.cc, .int .i64 r.term, .int .i64 r.vote, .int .i64 r.role, .int .i64 r.leader, .int .i64 r.b, .int .i64 r.bt, .slice x8.eA r.es.length x8.ec, .string r.snap, .int .i64 r.commit, .int .i64 r.left, .int .i64 r.wait, .slice x8.vA r.votes.length x8.vc, .slice x8.nA r.next.length x8.nc, .slice x8.mA r.mtch.length x8.mc] : Array Value)[i]? := HL0.out.cells
      have fl0 := HL0.out.free
      obtain ⟨p1, p2, p3, p4⟩ := HF0.out.atE r.es.length (by simp)
      obtain ⟨n1, hn1⟩ : ∃ n1, n1 = r.es.length + 1 := ⟨_, rfl⟩
      obtain ⟨q1, q2, q3, q4⟩ := HF0.out.atE n1 (by simp; omega)
      have j1 : (r.es.length : Int) < (r.es.length : Int) + 2 := by omega
      have j2 : (n1 : Int) < (r.es.length : Int) + 2 := by omega
      have hw0 : IntKind.i64.wrap (r.es.length : Int) = (r.es.length : Int) := IntWalk.i64_in _ (by have := HN.out; omega)
      have hw1 : IntKind.i64.wrap ((r.es.length : Int) + 2 - 1) = (n1 : Int) := by rw [IntWalk.i64_in _ (by have := HN.out; omega)]; omega
      have hne1 : r.es.length * 2 ≠ n1 * 2 := by omega
      have HN1 := Lib.hid hn1
      clear hn1
      have hgne : w5.heap.size ≠ w6.heap.size := by have := HL6.out.lt; omega
      have k8 : wr.cell? ⟨w.heap.size, 8, none⟩ = some (.slice x.eA r.es.length x.ec) := hr6 8
      clear hgi hi HI hr6
      go_upto_region 13 with (fail)
      have KP := Lib.hid (K2.of HK5.out HB6.out HL0.out HL6.out.lt HB0.out HF0.out HN1.out)
      obtain ⟨g8, hg8⟩ : ∃ g8, g8 = w5.heap.size := ⟨_, rfl⟩
      obtain ⟨gF, hgF⟩ : ∃ gF, gF = w6.heap.size := ⟨_, rfl⟩
      generalize ((wr.setCell ⟨w6.heap.size, r.es.length * 2, none⟩ (.int .i64 (-7))).setCell ⟨w6.heap.size, n1 * 2, none⟩ (.int .i64 (-7))).setCell ⟨w5.heap.size, 8, none⟩ (.slice (some ⟨w6.heap.size, 0, none⟩) r.es.length (r.es.length + 2)) = wP at *
      rw [← hg8] at *
      rw [← hgF] at *
      clear hl0 fl0 p1 p2 p3 p4 q1 q2 q3 q4 j1 j2 hw0 hw1 hne1 hgne k8 HF0 HB0 HL0 HN1 HK5 HB6 HL6 HR6 HIE HBI hg8 hgF hie
      obtain ⟨xL, hxL⟩ : ∃ xL : NdX, xL = { x8 with eA := some ⟨gF, 0, none⟩, ec := r.es.length + 2 } := ⟨_, rfl⟩
      rw [← hxL] at KP
      clear hxL
      obtain ⟨qh, hqh⟩ : ∃ qh, qh = Rf.handle r m := ⟨_, rfl⟩
      obtain ⟨qt, hqt⟩ : ∃ qt, qt = Rf.tick r d := ⟨_, rfl⟩
      have ZH := Lib.hid (show Sz qh.1 by rw [hqh]; exact Rf.handle_sz h.out.sz m)
      have ZT := Lib.hid (show Sz qt.1 by rw [hqt]; exact Rf.tick_sz h.out.sz d)
      have HHC := Lib.hid (fun (W : World) (hr : Hid (RdR W r xL)) (hmm : Hid (m.es.length ≤ cap ∧ RdE W A m.es)) => handle_calls r xL W hr m A cap hmm hml)
      have HTC := Lib.hid (fun (W : World) (hr : Hid (RdR W r xL)) => tick_calls r xL W hr d hd0 hd1)
      rw [← hqh] at HHC
      rw [← hqt] at HTC
      clear hqh hqt
      go_wp2_with (first
        | (refine wpList_loadB rfl 48 (.tmp 8) rfl g8 rfl KP.out.b8 Try.underlying48 infoR ?_)
        | (refine wpList_loadB rfl 53 (.tmp 4) rfl (w.heap.size + 1) rfl KP.out.b4 Try.underlying53 infoMs ?_))
      refine (HHC.out wP (Lib.hid KP.out.r8) (Lib.hid ⟨hm.out.1, hm.out.2.bel KP.out.bel⟩)).mono ?_
      rintro e wAc ⟨⟨xA, colA, LA, rfl, hMA, hRA⟩, hbA⟩
      have HMA := Lib.hid hMA
      have HRA := Lib.hid hRA
      have HXA := Lib.hid (boxed wAc 48 #[.int .i64 0, .slice none 0 0, .int .i64 0, .int .i64 0, .int .i64 0, .int .i64 0, .int .i64 0, .int .i64 0, .slice none 0 0, .string ⟨#[]⟩, .int .i64 0, .int .i64 0, .int .i64 0, .slice none 0 0, .slice none 0 0, .slice none 0 0] (raftL qh.1 xA).toArray)
      have HZA := Lib.hid (Blk.new wAc 48 #[.int .i64 0, .slice none 0 0, .int .i64 0, .int .i64 0, .int .i64 0, .int .i64 0, .int .i64 0, .int .i64 0, .slice none 0 0, .string ⟨#[]⟩, .int .i64 0, .int .i64 0, .int .i64 0, .slice none 0 0, .slice none 0 0, .slice none 0 0])
      have HBc := Lib.hid hbA
      clear hMA hRA hbA
      go_upto_region 14 with (refine wpList_storeB rfl 48 (.tmp 11) (.tmp 77) rfl wAc.heap.size (raftL qh.1 xA).toArray rfl rfl HZA.out infoR rfl (raftL_one _ _) ?_)
      have HBA := Lib.hid (bel_tr HBc.out HXA.out.1)
      have KA := Lib.hid (KP.out.to HBA.out)
      have GA := Lib.hid HXA.out.2.1
      have SA := Lib.hid HXA.out.2.2
      have VA := Lib.hid HXA.out.1
      have CA := Lib.hid HBc.out.size
      generalize (wAc.alloc (.cells #[.int .i64 0, .slice none 0 0, .int .i64 0, .int .i64 0, .int .i64 0, .int .i64 0, .int .i64 0, .int .i64 0, .slice none 0 0, .string ⟨#[]⟩, .int .i64 0, .int .i64 0, .int .i64 0, .slice none 0 0, .slice none 0 0, .slice none 0 0] 48)).setRow wAc.heap.size (raftL qh.1 xA).toArray = wA at *
      clear HXA HZA HBc
      have RA := Lib.hid (((HRA.out.recol 1).bel VA.out).bel (Below.refl _ _))
      go_wp2_with (refine wpList_loadB rfl 48 (.tmp 8) rfl g8 rfl KA.out.b8 Try.underlying48 infoR ?_)
      refine (HTC.out wA (Lib.hid KA.out.r8)).mono ?_
      rintro e wBc ⟨⟨xB, colB, LB, rfl, hMB, hRB⟩, hbB⟩
      have HMB := Lib.hid hMB
      have HRB := Lib.hid hRB
      have HXB := Lib.hid (boxed wBc 48 #[.int .i64 0, .slice none 0 0, .int .i64 0, .int .i64 0, .int .i64 0, .int .i64 0, .int .i64 0, .int .i64 0, .slice none 0 0, .string ⟨#[]⟩, .int .i64 0, .int .i64 0, .int .i64 0, .slice none 0 0, .slice none 0 0, .slice none 0 0] (raftL qt.1 xB).toArray)
      have HZB := Lib.hid (Blk.new wBc 48 #[.int .i64 0, .slice none 0 0, .int .i64 0, .int .i64 0, .int .i64 0, .int .i64 0, .int .i64 0, .int .i64 0, .slice none 0 0, .string ⟨#[]⟩, .int .i64 0, .int .i64 0, .int .i64 0, .slice none 0 0, .slice none 0 0, .slice none 0 0])
      have HBc := Lib.hid hbB
      clear hMB hRB hbB
      go_upto_region 15 with (refine wpList_storeB rfl 48 (.tmp 13) (.tmp 83) rfl wBc.heap.size (raftL qt.1 xB).toArray rfl rfl HZB.out infoR rfl (raftL_one _ _) ?_)
      have HBB := Lib.hid (bel_tr HBc.out HXB.out.1)
      have KB := Lib.hid (KA.out.to HBB.out)
      have GB := Lib.hid HXB.out.2.1
      have SB := Lib.hid HXB.out.2.2
      have VB := Lib.hid HXB.out.1
      have CB := Lib.hid HBc.out.size
      generalize (wBc.alloc (.cells #[.int .i64 0, .slice none 0 0, .int .i64 0, .int .i64 0, .int .i64 0, .int .i64 0, .int .i64 0, .int .i64 0, .slice none 0 0, .string ⟨#[]⟩, .int .i64 0, .int .i64 0, .int .i64 0, .slice none 0 0, .slice none 0 0, .slice none 0 0] 48)).setRow wBc.heap.size (raftL qt.1 xB).toArray = wB at *
      clear HXB HZB HBc
      go_wp2_with (first
        | (refine wpList_loadB rfl 48 (.tmp 8) rfl g8 rfl KB.out.b8 Try.underlying48 infoR ?_)
        | (refine wpList_loadB rfl 53 (.tmp 4) rfl (w.heap.size + 1) rfl KB.out.b4 Try.underlying53 infoMs ?_))
      refine (HHC.out wB (Lib.hid KB.out.r8) (Lib.hid ⟨hm.out.1, hm.out.2.bel KB.out.bel⟩)).mono ?_
      rintro e wCc ⟨⟨xC, colC, LC, rfl, hMC, hRC⟩, hbC⟩
      have HMC := Lib.hid hMC
      have HRC := Lib.hid hRC
      have HXC := Lib.hid (boxed wCc 48 #[.int .i64 0, .slice none 0 0, .int .i64 0, .int .i64 0, .int .i64 0, .int .i64 0, .int .i64 0, .int .i64 0, .slice none 0 0, .string ⟨#[]⟩, .int .i64 0, .int .i64 0, .int .i64 0, .slice none 0 0, .slice none 0 0, .slice none 0 0] (raftL qh.1 xC).toArray)
      have HZC := Lib.hid (Blk.new wCc 48 #[.int .i64 0, .slice none 0 0, .int .i64 0, .int .i64 0, .int .i64 0, .int .i64 0, .int .i64 0, .int .i64 0, .slice none 0 0, .string ⟨#[]⟩, .int .i64 0, .int .i64 0, .int .i64 0, .slice none 0 0, .slice none 0 0, .slice none 0 0])
      have HBc := Lib.hid hbC
      clear hMC hRC hbC
      go_upto_region 16 with (refine wpList_storeB rfl 48 (.tmp 15) (.tmp 89) rfl wCc.heap.size (raftL qh.1 xC).toArray rfl rfl HZC.out infoR rfl (raftL_one _ _) ?_)
      have HBC := Lib.hid (bel_tr HBc.out HXC.out.1)
      have KC := Lib.hid (KB.out.to HBC.out)
      have GC := Lib.hid HXC.out.2.1
      have SC := Lib.hid HXC.out.2.2
      have VC := Lib.hid HXC.out.1
      have CC := Lib.hid HBc.out.size
      generalize (wCc.alloc (.cells #[.int .i64 0, .slice none 0 0, .int .i64 0, .int .i64 0, .int .i64 0, .int .i64 0, .int .i64 0, .int .i64 0, .slice none 0 0, .string ⟨#[]⟩, .int .i64 0, .int .i64 0, .int .i64 0, .slice none 0 0, .slice none 0 0, .slice none 0 0] 48)).setRow wCc.heap.size (raftL qh.1 xC).toArray = wC at *
      clear HXC HZC HBc
      have KX : Hid (K3 wP wC wP.heap.size wA.heap.size wAc.heap.size (recol colA wAc.heap.size 1) qh.1 xA LA wC) := Lib.hid
        { ov := ⟨bel_tr (bel_tr HBA.out HBB.out) HBC.out, Nat.le_refl _, fun _ _ _ => rfl⟩
          blk := (GA.out.bel HBB.out).bel HBC.out
          scr := ((RA.out.bel HBB.out).bel HBC.out).scr
          gl := CA.out
          gh := by rw [SA.out]; omega
          hc := fun b hb => by rw [SA.out]; exact recol_hi b hb
          ga := recol_new (Nat.le_refl _)
          hw := Nat.le_trans HBB.out.size HBC.out.size }
      have RB := Lib.hid ((HRB.out.bel VB.out).bel HBC.out)
      have RC := Lib.hid (HRC.out.bel VC.out)
      have GB1 := Lib.hid (GB.out.bel HBC.out)
      have CB1 : Hid (wA.heap.size ≤ wBc.heap.size ∧ wA.heap.size ≤ wCc.heap.size) := Lib.hid ⟨CB.out, by have := CB.out; have := SB.out; have := CC.out; omega⟩
      obtain ⟨lo, hlo⟩ : ∃ lo, lo = wP.heap.size := ⟨_, rfl⟩
      obtain ⟨hi, hhi⟩ : ∃ hi, hi = wA.heap.size := ⟨_, rfl⟩
      obtain ⟨gA, hgA⟩ : ∃ gA, gA = wAc.heap.size := ⟨_, rfl⟩
      obtain ⟨gB, hgB⟩ : ∃ gB, gB = wBc.heap.size := ⟨_, rfl⟩
      obtain ⟨gC, hgC⟩ : ∃ gC, gC = wCc.heap.size := ⟨_, rfl⟩
      have HSB : Hid (hi ≤ wA.heap.size ∧ hi ≤ wB.heap.size) := Lib.hid ⟨by omega, by rw [hhi]; exact HBB.out.size⟩
      have HLO : Hid (lo = wP.heap.size) := Lib.hid hlo
      generalize recol colA wAc.heap.size 1 = colX at *
      rw [← hgA] at KX ⊢
      rw [← hgB] at GB1 CB1 ⊢
      rw [← hgC] at GC CB1 ⊢
      rw [← hlo] at KX
      rw [← hhi] at KX CB1
      obtain ⟨aC, aCc, aE, aEc, aV, aVc, aN, aNc, aM, aMc, aO, aOc⟩ := xA
      obtain ⟨a, ha⟩ : ∃ a, a = qh.1 := ⟨_, rfl⟩
      rw [← ha] at KX
      have HAE := Lib.hid ha
      clear hgA hgB hgC hhi hlo KA KB HRA HRB HRC GA GB SA SB SC VA VB VC CA CB CC RA HBA HBB HBC ha
      -- the entries
      go_wp2_with fail
      go_loopg [17] a.es.length (fun g v17 W => ∃ i : Nat, v17 = .int .i64 i ∧ g + i = a.es.length ∧ Hid (K3 wP wC lo hi gA colX a ⟨aC, aCc, aE, aEc, aV, aVc, aN, aNc, aM, aMc, aO, aOc⟩ LA W))
      case atStart => exact ⟨0, rfl, rfl, KX⟩
      case round =>
        obtain ⟨j, rfl, hgj, HI⟩ := hrel
        clear KX
        have b8 : wr.cell? ⟨gA, 8, none⟩ = some (.slice aE a.es.length aEc) := HI.out.blk.cells 8
        by_cases hj : j < a.es.length
        · have hjl : (j : Int) < (a.es.length : Int) := by omega
          obtain ⟨n, rfl⟩ : ∃ n, gk = n + 1 := ⟨gk - 1, by omega⟩
          have hj1 : (j : Int) + 1 ≤ 9223372036854775807 := by have := ZH.out.es; have := HAE.out; rw [this] at hjl; omega
          obtain ⟨es', he, hO⟩ := HI.out.scr.es
          obtain ⟨ge, ce, e, hge, -⟩ := (OwnE.row.1 hO).block (by omega)
          injection e with e e2 e3
          clear e2 e3
          have hc := HI.out.scr.esc ge (by rw [e]; rfl)
          replace e : aE = some ⟨ge, 0, none⟩ := e
          replace hO : OwnE wr lo (.slice aE a.es.length aEc) es' := hO
          rw [e] at hO b8
          obtain ⟨c1, -, c3, -⟩ := hO.atE j (by omega)
          have HS := Lib.hid (HI.out.set0 hc hge j (-9))
          generalize (es'.getD j default).1 = tt at *
          clear e hc hO he hge
          go_wp2_with fail
          go_roundg n
          case rel => exact ⟨j + 1, by go_num, by omega, HS⟩
          case measure => omega
        · have hjl : ¬ (j : Int) < (a.es.length : Int) := by omega
          have KX := HI
          clear HI hgj hj
          -- the numbers
          go_wp2_with fail
          clear b8
          go_loopg [18] a.next.length (fun g v18 W => ∃ i : Nat, v18 = .int .i64 i ∧ g + i = a.next.length ∧ Hid (K3 wP wC lo hi gA colX a ⟨aC, aCc, aE, aEc, aV, aVc, aN, aNc, aM, aMc, aO, aOc⟩ LA W))
          case atStart => exact ⟨0, rfl, rfl, KX⟩
          case round =>
            obtain ⟨k, rfl, hgk, HI⟩ := hrel
            clear KX
            have b14 : wr.cell? ⟨gA, 14, none⟩ = some (.slice aN a.next.length aNc) := HI.out.blk.cells 14
            by_cases hk : k < a.next.length
            · have hkl : (k : Int) < (a.next.length : Int) := by omega
              obtain ⟨n, rfl⟩ : ∃ n, gk = n + 1 := ⟨gk - 1, by omega⟩
              have hk1 : (k : Int) + 1 ≤ 9223372036854775807 := by have := ZH.out.next; have := HAE.out; rw [this] at hkl; omega
              obtain ⟨ns, hn, hO⟩ := HI.out.scr.next
              obtain ⟨ge, ce, e, hge, -⟩ := hO.block (by omega)
              injection e with e e2 e3
              clear e2 e3
              have hc := HI.out.scr.nextc ge (by rw [e]; rfl)
              have HS := Lib.hid (HI.out.set3 hc hge e k (-9))
              replace e : aN = some ⟨ge, 0, none⟩ := e
              replace hO : OwnL (layI .i64) 2 wr lo (.slice aN a.next.length aNc) ns := hO
              rw [e] at hO b14
              obtain ⟨c1, c3⟩ := hO.at_ k (by omega)
              generalize ns.getD k 0 = tt at *
              clear e hc hO hn hge
              go_wp2_with fail
              go_roundg n
              case rel => exact ⟨k + 1, by go_num, by omega, HS⟩
              case measure => omega
            · have hkl : ¬ (k : Int) < (a.next.length : Int) := by omega
              have KX := HI
              clear HI hgk hk
              -- the messages' entries
              go_wp2_with fail
              clear b14
              go_loopg [19, 20] LA.length (fun g v19 v20 W => ∃ i : Nat, v19 = .int .i64 i ∧ g + i = LA.length ∧ Hid (K3 wP wC lo hi gA colX a ⟨aC, aCc, aE, aEc, aV, aVc, aN, aNc, aM, aMc, aO, aOc⟩ LA W))
              case atStart => exact ⟨0, rfl, rfl, KX⟩
              case round =>
                obtain ⟨l, rfl, hgl, HI⟩ := hrel
                clear KX
                by_cases hl : l < LA.length
                · have hll : (l : Int) < (LA.length : Int) := by omega
                  obtain ⟨n, rfl⟩ : ∃ n, gk = n + 1 := ⟨gk - 1, by omega⟩
                  have hl1 : (l : Int) + 1 ≤ 9223372036854775807 := by
                    obtain ⟨e1, _, e3, e4⟩ := HI.out.scr.out.rd
                    have e3' : LA.length ≤ aOc := e3
                    have e4' : aOc ≤ maxLen := e4
                    unfold maxLen at e4'
                    omega
                  obtain ⟨g0, e0, cr⟩ := HI.out.row l hl
                  obtain rfl : aO = some ⟨g0, 0, none⟩ := e0
                  obtain ⟨y, hy⟩ : ∃ y, y = LA.getD l default := ⟨_, rfl⟩
                  rw [← hy] at cr
                  have HY := Lib.hid hy
                  have HYM : Hid (y ∈ LA) := Lib.hid (by rw [hy]; simp [List.getD, hl])
                  have HLL := Lib.hid hl
                  clear hy
                  go_wp2_with fail
                  go_loopg [20] y.m.es.length (fun g v20 W => ∃ i : Nat, v20 = .int .i64 i ∧ g + i = y.m.es.length ∧ Hid (K3 wP wC lo hi gA colX a ⟨aC, aCc, aE, aEc, aV, aVc, aN, aNc, aM, aMc, some ⟨g0, 0, none⟩, aOc⟩ LA W))
                  case atStart => exact ⟨0, rfl, rfl, HI⟩
                  case round =>
                    obtain ⟨p, rfl, hgp, HP⟩ := hrel
                    clear HI cr
                    obtain ⟨g0', e0, cr⟩ := HP.out.row l HLL.out
                    replace e0 : some (⟨g0, 0, none⟩ : Addr) = some ⟨g0', 0, none⟩ := e0
                    injection e0 with e0
                    injection e0 with e0 _ _
                    subst e0
                    rw [← HY.out] at cr
                    by_cases hp : p < y.m.es.length
                    · have hpl : (p : Int) < (y.m.es.length : Int) := by omega
                      obtain ⟨n2, rfl⟩ : ∃ n2, gk = n2 + 1 := ⟨gk - 1, by omega⟩
                      obtain ⟨⟨es', he, hO⟩, hcl⟩ := HP.out.scr.ents y HYM.out
                      have hp1 : (p : Int) + 1 ≤ 9223372036854775807 := by
                        obtain ⟨_, _, e3, e4⟩ := (OwnE.row.1 hO).rd
                        unfold maxLen at e4
                        omega
                      obtain ⟨ge, ce, e, hge, -⟩ := (OwnE.row.1 hO).block (by omega)
                      injection e with e e2 e3
                      clear e2 e3
                      have hc := hcl ge (by rw [e]; rfl)
                      rw [e] at hO cr
                      obtain ⟨c1, -, c3, -⟩ := hO.atE p (by omega)
                      have HS := Lib.hid (HP.out.set0 hc hge p (-9))
                      generalize (es'.getD p default).1 = tt at *
                      clear e hc hO hcl he hge
                      go_wp2_with fail
                      go_roundg n2
                      case rel => exact ⟨p + 1, by go_num, by omega, HS⟩
                      case measure => omega
                    · have hpl : ¬ (p : Int) < (y.m.es.length : Int) := by omega
                      go_wp2_with fail
                      go_roundg n
                      case rel => exact ⟨l + 1, by go_num, by omega, HP⟩
                      case measure => omega
                · have hll : ¬ (l : Int) < (LA.length : Int) := by omega
                  have KX := HI
                  clear HI hgl hl
                  go_upto_region 31 with (fail)
                  obtain ⟨es', he, hO⟩ := KX.out.scr.es
                  have b8 : wr.cell? ⟨gA, 8, none⟩ = some (.slice aE a.es.length aEc) := KX.out.blk.cells 8
                  have HO := Lib.hid (show OwnE wr lo (.slice aE a.es.length aEc) es' from hO)
                  have HLEN : Hid (es'.length ≤ 6000000000000) := Lib.hid (by rw [he, HAE.out]; exact ZH.out.es)
                  have HLEC : Hid (a.conf.length ≤ 20000000000000) := Lib.hid (by rw [HAE.out]; exact ZH.out.conf)
                  have HLO2 : Hid (lo ≤ wr.heap.size) := Lib.hid (Nat.le_trans KX.out.gl (Nat.le_of_lt KX.out.blk.lt))
                  have HNW := Lib.hid (bel_new (Below.refl wr.heap.size wr) (.cells #[.int .i64 (-9), .string ByteArray.empty] 32))
                  have HRD := Lib.hid (rdE_one wr (-9) ByteArray.empty)
                  clear he hO
                  go_upto_region 32 with (first
                    | (at_builtin
                       refine wpList_appW rfl (.tmp 142) (.tmp 144) rfl lo _ es' rfl (HO.out.kept HNW.out) (some ⟨wr.heap.size, 0, none⟩) 1 1 [(-9, ByteArray.empty)] rfl rfl HRD.out (by have := HLEN.out; simp only [List.length_cons, List.length_nil]; omega) (Nat.le_trans HLO2.out HNW.out.size) ?_
                       intro v2 w2' ho2 hg2
                       obtain ⟨h4, c8, h4s⟩ := KX.out.es_app HNW.out HO.out hg2
                       replace c8 : w2'.cell? ⟨gA, 8, none⟩ = some (.slice aE a.es.length aEc) := c8
                       have f8 := h4.f1
                       have l8 := h4.lt
                       have H4S := Lib.hid h4s
                       obtain ⟨A2, c2, rfl, -, -, -⟩ := ho2.form
                       clear ho2 hg2 h4 h4s b8))
                  have H5 := Lib.hid (H4S.out (.slice A2 (es'.length + 1) c2))
                  generalize w2'.setCell ⟨gA, 8, none⟩ (.slice A2 (es'.length + 1) c2) = wX at *
                  have b1 : wX.cell? ⟨gA, 1, none⟩ = some (.slice aC a.conf.length aCc) := H5.out.b1
                  have HCO := Lib.hid (show OwnL (layI .i64) 3 wX lo (.slice aC a.conf.length aCc) a.conf from H5.out.conf)
                  have HN2 := Lib.hid (bel_new (Below.refl wX.heap.size wX) (.cells #[.int .i64 (-9)] 3))
                  have HR2 := Lib.hid (rdL_lit (L := layI .i64) wX 3 [-9] (by simp [maxLen]) _ rfl)
                  have HLX : Hid (lo ≤ wX.heap.size) := Lib.hid (Nat.le_trans H5.out.gl (Nat.le_of_lt H5.out.lt))
                  clear c8 f8 l8 H4S HO HLEN HLO2 HNW HRD KX
                  go_upto_region 33 with (first
                    | (at_builtin
                       refine wpList_appL (L := layI .i64) 45 _ 8 Try.underlying45 infoI rfl rfl (.tmp 149) (.tmp 150) rfl lo _ a.conf rfl (HCO.out.kept HN2.out) (some ⟨wX.heap.size, 0, none⟩) 1 1 [-9] rfl rfl HR2.out (by have := HLEC.out; simp [maxLen]; omega) (by have := HLEC.out; simp; omega) (Nat.le_trans HLX.out HN2.out.size) ?_
                       intro v3 w3' ho3 hg3
                       obtain ⟨c1, f1, l1, h6⟩ := H5.out.conf_app HN2.out hg3
                       replace c1 : w3'.cell? ⟨gA, 1, none⟩ = some (.slice aC a.conf.length aCc) := c1
                       have H6 := Lib.hid h6
                       obtain ⟨A3, c3, rfl, -, -, -, -⟩ := ho3.form
                       clear ho3 hg3 h6 b1))
                  have OV := Lib.hid (H6.out (.slice A3 (a.conf.length + 1) c3))
                  generalize w3'.setCell ⟨gA, 1, none⟩ (.slice A3 (a.conf.length + 1) c3) = wZ at *
                  have KZ := Lib.hid (KP.out.to (by have := OV.out.bel; rw [HLO.out] at this; exact this))
                  have RB2 := Lib.hid (OV.out.rest RB.out HSB.out.1)
                  have RC2 := Lib.hid (OV.out.rest RC.out HSB.out.2)
                  have GB2 := Lib.hid (OV.out.blk GB1.out CB1.out.1)
                  have GC2 := Lib.hid (OV.out.blk GC.out CB1.out.2)
                  clear c1 f1 l1 H6 H5 HCO HN2 HR2 HLX HLEC OV RB RC GB1 GC KP KC CB1 HSB HLO
                  go_wp2_with (first
                    | (refine wpList_loadB rfl 48 (.tmp 8) rfl g8 rfl KZ.out.b8 Try.underlying48 infoR ?_)
                    | (refine wpList_loadB rfl 53 (.tmp 4) rfl (w.heap.size + 1) rfl KZ.out.b4 Try.underlying53 infoMs ?_))
                  refine (HHC.out wZ (Lib.hid KZ.out.r8) (Lib.hid ⟨hm.out.1, hm.out.2.bel KZ.out.bel⟩)).mono ?_
                  rintro e wDc ⟨⟨xD, colD, LD, rfl, hMD, hRD⟩, hbD⟩
                  have HMD := Lib.hid hMD
                  have HRD := Lib.hid hRD
                  have HXD := Lib.hid (boxed wDc 48 #[.int .i64 0, .slice none 0 0, .int .i64 0, .int .i64 0, .int .i64 0, .int .i64 0, .int .i64 0, .int .i64 0, .slice none 0 0, .string ⟨#[]⟩, .int .i64 0, .int .i64 0, .int .i64 0, .slice none 0 0, .slice none 0 0, .slice none 0 0] (raftL qh.1 xD).toArray)
                  have HZD := Lib.hid (Blk.new wDc 48 #[.int .i64 0, .slice none 0 0, .int .i64 0, .int .i64 0, .int .i64 0, .int .i64 0, .int .i64 0, .int .i64 0, .slice none 0 0, .string ⟨#[]⟩, .int .i64 0, .int .i64 0, .int .i64 0, .slice none 0 0, .slice none 0 0, .slice none 0 0])
                  have HBc := Lib.hid hbD
                  clear hMD hRD hbD
                  go_upto_region 34 with (refine wpList_storeB rfl 48 (.tmp 21) (.tmp 157) rfl wDc.heap.size (raftL qh.1 xD).toArray rfl rfl HZD.out infoR rfl (raftL_one _ _) ?_)
                  have HBD := Lib.hid (bel_tr HBc.out HXD.out.1)
                  have KD := Lib.hid (KZ.out.to HBD.out)
                  have GD := Lib.hid HXD.out.2.1
                  have RD := Lib.hid (HRD.out.bel HXD.out.1)
                  have CD : Hid (wZ.heap.size ≤ wDc.heap.size) := Lib.hid HBc.out.size
                  generalize (wDc.alloc (.cells #[.int .i64 0, .slice none 0 0, .int .i64 0, .int .i64 0, .int .i64 0, .int .i64 0, .int .i64 0, .int .i64 0, .slice none 0 0, .string ⟨#[]⟩, .int .i64 0, .int .i64 0, .int .i64 0, .slice none 0 0, .slice none 0 0, .slice none 0 0] 48)).setRow wDc.heap.size (raftL qh.1 xD).toArray = wD at *
                  clear HXD HZD HBc HRD
                  go_wp2_with (refine wpList_loadB rfl 48 (.tmp 8) rfl g8 rfl KD.out.b8 Try.underlying48 infoR ?_)
                  refine (HTC.out wD (Lib.hid KD.out.r8)).mono ?_
                  rintro e wEc ⟨⟨xE, colE, LE, rfl, hME, hRE⟩, hbE⟩
                  have HME := Lib.hid hME
                  have HRE := Lib.hid hRE
                  have HXE := Lib.hid (boxed wEc 48 #[.int .i64 0, .slice none 0 0, .int .i64 0, .int .i64 0, .int .i64 0, .int .i64 0, .int .i64 0, .int .i64 0, .slice none 0 0, .string ⟨#[]⟩, .int .i64 0, .int .i64 0, .int .i64 0, .slice none 0 0, .slice none 0 0, .slice none 0 0] (raftL qt.1 xE).toArray)
                  have HZE := Lib.hid (Blk.new wEc 48 #[.int .i64 0, .slice none 0 0, .int .i64 0, .int .i64 0, .int .i64 0, .int .i64 0, .int .i64 0, .int .i64 0, .slice none 0 0, .string ⟨#[]⟩, .int .i64 0, .int .i64 0, .int .i64 0, .slice none 0 0, .slice none 0 0, .slice none 0 0])
                  have HBc := Lib.hid hbE
                  clear hME hRE hbE
                  go_upto_region 35 with (refine wpList_storeB rfl 48 (.tmp 23) (.tmp 163) rfl wEc.heap.size (raftL qt.1 xE).toArray rfl rfl HZE.out infoR rfl (raftL_one _ _) ?_)
                  have HBE := Lib.hid (bel_tr HBc.out HXE.out.1)
                  have KE := Lib.hid (KD.out.to HBE.out)
                  have GE := Lib.hid HXE.out.2.1
                  have RE := Lib.hid (HRE.out.bel HXE.out.1)
                  have CE : Hid (wD.heap.size ≤ wEc.heap.size) := Lib.hid HBc.out.size
                  generalize (wEc.alloc (.cells #[.int .i64 0, .slice none 0 0, .int .i64 0, .int .i64 0, .int .i64 0, .int .i64 0, .int .i64 0, .int .i64 0, .slice none 0 0, .string ⟨#[]⟩, .int .i64 0, .int .i64 0, .int .i64 0, .slice none 0 0, .slice none 0 0, .slice none 0 0] 48)).setRow wEc.heap.size (raftL qt.1 xE).toArray = wE at *
                  clear HXE HZE HBc HRE
                  have HBZ := Lib.hid (bel_tr HBD.out HBE.out)
                  have RB3 := Lib.hid (RB2.out.bel HBZ.out)
                  have RC3 := Lib.hid (RC2.out.bel HBZ.out)
                  have GB3 := Lib.hid (GB2.out.bel HBZ.out)
                  have GC3 := Lib.hid (GC2.out.bel HBZ.out)
                  have RD3 := Lib.hid (RD.out.bel HBE.out)
                  have GD3 := Lib.hid (GD.out.bel HBE.out)
                  obtain ⟨gD, hgD⟩ : ∃ gD, gD = wDc.heap.size := ⟨_, rfl⟩
                  obtain ⟨gE, hgE⟩ : ∃ gE, gE = wEc.heap.size := ⟨_, rfl⟩
                  rw [← hgD] at GD3 ⊢
                  rw [← hgE] at GE ⊢
                  have SA := Lib.hid (fun (W : World) (hb : Below wE.heap.size wE W) => rsame14_calls r xL x7 W (Lib.hid (KE.out.r8.bel hb)) (Lib.hid (KE.out.r7.bel hb)))
                  have SC := Lib.hid (fun (W : World) (hb : Below wE.heap.size wE W) => rsame14_calls qh.1 xC xD W (Lib.hid ((RC3.out.rd_of ZH.out).bel hb)) (Lib.hid ((RD3.out.rd_of ZH.out).bel hb)))
                  have SB := Lib.hid (fun (W : World) (hb : Below wE.heap.size wE W) => rsame14_calls qt.1 xB xE W (Lib.hid ((RB3.out.rd_of ZT.out).bel hb)) (Lib.hid ((RE.out.rd_of ZT.out).bel hb)))
                  have SM := Lib.hid (fun (W : World) (hb : Below wE.heap.size wE W) => rmessages_calls xB.oA xE.oA xB.oc xE.oc LB LE W (Lib.hid (RB3.out.rdM.1.bel hb)) (Lib.hid (RE.out.rdM.1.bel hb)) (Lib.hid (HMB.out.trans HME.out.symm)) RB3.out.rdM.2)
                  clear RB2 RC2 GB2 GC2 RD GD hgD hgE HBZ HBD HBE KZ KD RB3 RC3 RD3 RE HMB HMC HMD HME HHC HTC ZH ZT
                  go_wp2_with (first
                    | (refine wpList_loadB rfl 48 (.tmp 8) rfl g8 rfl KE.out.b8 Try.underlying48 infoR ?_)
                    | (refine wpList_loadB rfl 48 (.tmp 7) rfl g7 rfl KE.out.b7 Try.underlying48 infoR ?_))
                  refine (SA.out wE (Below.refl _ _)).mono ?_
                  rintro e wF ⟨rfl, hbF⟩
                  have HBF := Lib.hid hbF
                  have KF := Lib.hid (KE.out.to hbF)
                  have BC := Lib.hid (GC3.out.bel hbF)
                  have BD := Lib.hid (GD3.out.bel hbF)
                  have HEC := Lib.hid (SC.out wF hbF)
                  obtain ⟨n1, hn1⟩ : ∃ n1, n1 = r.es.length + 1 := ⟨_, rfl⟩
                  have f1 := KF.out.f1
                  have f2 := KF.out.f2
                  rw [← hn1] at f2
                  have j1 : (r.es.length : Int) < (r.es.length : Int) + 2 := by omega
                  have j2 : (n1 : Int) < (r.es.length : Int) + 2 := by omega
                  have hw0 : IntKind.i64.wrap (r.es.length : Int) = (r.es.length : Int) := IntWalk.i64_in _ (by have := HN.out; omega)
                  have hw1 : IntKind.i64.wrap ((r.es.length : Int) + 2 - 1) = (n1 : Int) := by rw [IntWalk.i64_in _ (by have := HN.out; omega)]; omega
                  clear hn1 hbF GC3 GD3 SA
                  go_wp2_with (first
                    | (refine wpList_loadG 48 (.tmp 15) rfl gC rfl BC.out Try.underlying48 infoR (by rfl) ?_)
                    | (refine wpList_loadG 48 (.tmp 21) rfl gD rfl BD.out Try.underlying48 infoR (by rfl) ?_))
                  refine HEC.out.mono ?_
                  rintro e wG ⟨rfl, hbG⟩
                  have HBG := Lib.hid (bel_tr HBF.out hbG)
                  have BB := Lib.hid (GB3.out.bel HBG.out)
                  have BE := Lib.hid (GE.out.bel HBG.out)
                  have KG := Lib.hid (KF.out.to hbG)
                  have HEB := Lib.hid (SB.out wG HBG.out)
                  clear f1 f2 j1 j2 hw0 hw1 hbG HBF KF BC BD HEC SC
                  go_wp2_with (first
                    | (refine wpList_loadG 48 (.tmp 13) rfl gB rfl BB.out Try.underlying48 infoR (by rfl) ?_)
                    | (refine wpList_loadG 48 (.tmp 23) rfl gE rfl BE.out Try.underlying48 infoR (by rfl) ?_))
                  refine HEB.out.mono ?_
                  rintro e wH ⟨rfl, hbH⟩
                  have HBH := Lib.hid (bel_tr HBG.out hbH)
                  have KH := Lib.hid (KG.out.to hbH)
                  have HEM := Lib.hid (SM.out wH HBH.out)
                  clear hbH HBG KG BB BE HEB SB
                  go_wp2_with fail
                  refine HEM.out.mono ?_
                  rintro e wI ⟨rfl, hbI⟩
                  have HBI := Lib.hid (bel_tr KH.out.bel hbI)
                  clear hbI
                  go_wp2_with fail
                  go_ret
                  exact ⟨rfl, HBI.out⟩

set_option maxRecDepth 100000 in
/-- a message as an argument -/
theorem msg_arg {H : Type} {enc : TypeId × Value → H} {w : World} {base : Nat} {held : Bool} {b0 : Nat} {v : Value} {d : DataW H} {p : List MemPlace}
    (hv : Value.okWide Try.prog w .any b0 53 v) (h : DataW.Trod enc Try.prog w base (fun _ => true) held 53 v d p) (hw : (d.weights Try.prog 53).all (· ≤ reachBytes) = true) :
    ∃ m A cap, v = msgV m A cap ∧ m.es.length ≤ cap ∧ m.es.length ≤ 9223372036854775807 ∧ RdE w A m.es := by
  obtain ⟨vs, rfl, hl⟩ := open_arg (n := 3) (ts := [3, 3, 3, 2, 2, 2, 2, 4, 22, 9]) Try.underlying53 (by kernel_rfl) hv h hw
  obtain ⟨m, B, bc, vs, rfl, e1, e2, e3, hl⟩ := leaf_msg hl
  obtain rfl := leaf_nil hl
  exact ⟨m, B, bc, rfl, e1, by omega, e3⟩

set_option maxRecDepth 100000 in
theorem walks {H : Type} (enc : TypeId × Value → H) : Walks enc Try.prog 15 Try.f15 := by
  intro W base args ds ps hval hA hwt
  rw [Try.params15] at hA hval hwt
  obtain ⟨v0, vs0, d0, ds0, p0, q0, hargs, rfl, rfl, h0, r0⟩ := trodAll_cons hA
  obtain ⟨v1, vs1, d1, ds1, p1, q1, rfl, rfl, rfl, h1, r1⟩ := trodAll_cons r0
  obtain ⟨v2, vs2, d2, ds2, p2, q2, rfl, rfl, rfl, h2, r2⟩ := trodAll_cons r1
  obtain ⟨rfl, rfl, rfl⟩ := trodAll_nil r2
  obtain rfl : args = #[v0, v1, v2] := by cases args; simp_all
  obtain ⟨r, x, rfl, hr⟩ := raft_arg (hval 0 48 v0 rfl rfl) h0 (weightsEach_at (i := 0) hwt rfl rfl)
  obtain ⟨m, A, cap, rfl, m1, m2, m3⟩ := msg_arg (hval 1 53 v1 rfl rfl) h1 (weightsEach_at (i := 1) hwt rfl rfl)
  obtain ⟨d, rfl, rfl, rfl, w2⟩ := open_int Try.underlying3 (hval 2 3 v2 rfl rfl) h2
  simp [Lit.wf, IntKind.min, IntKind.max, IntKind.signed, IntKind.bits] at w2
  exact walk r x m A cap d W (Lib.hid hr) (Lib.hid ⟨m1, m3⟩) m2 (by omega) (by omega)

set_option maxRecDepth 100000 in
theorem lifted (os : Os) (started : os.Started) (H : Type) (enc : TypeId × Value → H) :
    ReturnsInHanded {} Try.checked os 15 .any (Rows.raftKeepsSpec.pre6 enc Try.prog Try.f15 Rows.raftKeepsRow.domain false) (Rows.raftKeepsSpec.post enc Try.prog Try.f15 false true false false) :=
  frame_lifted (C := Try.checked) own started (by kernel_rfl) Try.func15
    (ChangeSpec.witness6 (enc := enc) (C := Try.checked) false ⟨#[], #[.agg #[.int .i64 0, .slice none 0 0, .int .i64 0, .int .i64 0, .int .i64 0, .int .i64 0, .int .i64 0, .int .i64 0, .slice none 0 0, .string ⟨#[]⟩, .int .i64 0, .int .i64 0, .int .i64 0, .slice none 0 0, .slice none 0 0, .slice none 0 0], .agg #[.int .i64 0, .int .i64 0, .int .i64 0, .int .i64 0, .int .i64 0, .int .i64 0, .int .i64 0, .bool false, .slice none 0 0, .string ⟨#[]⟩], .int .i64 0], []⟩ 8 (by kernel_rfl) (by kernel_rfl) (by kernel_rfl) (by kernel_rfl)) laidOut (by kernel_rfl) rfl (by rfl) Try.underlying4
    (fun ds h => match ds, h with | [d0, d1, d2], _ => ⟨rfl, rfl, rfl⟩) (walks enc)

theorem over : Rows.raftKeepsRow.holds Try.pinned (OpenSpec.ofChange Rows.raftKeepsSpec) :=
  OpenClaim.holds_of_wide 15 Try.f15 rfl rfl rfl rfl rfl rfl rfl ⟨rfl, rfl, rfl, rfl, rfl⟩ rfl rfl rfl rfl rfl (by kernel_rfl) Try.func15 (by kernel_rfl)
    (of_decide_eq_true (by kernel_rfl)) (by unfold Func.isWrapper; first | (rw [if_pos (by decide +kernel)]; kernel_rfl) | (rw [if_neg (by decide +kernel)]; exact ⟨rfl, rfl⟩))
    (fun os started H enc _ => lifted os started H enc)

/-- the statement -/
theorem proved : Rows.RaftKeepsSaid := over
end Go.Proofs.Ytdladjgdhnkkcaa.lawRaftKeeps
