
/-
  2 texts in one.
  Conditions: stated lemma by lemma.
-/
import Derived.Test.YtdladjgdhnkkcaaGreatZRfDToRfM
import Derived.Test.YtdladjgdhnkkcaaGreatZTr8
import Derived.Test.YtdladjgdhnkkcaaGreatZQ7
import Derived.Deep.RegionLaw
import Derived.BigRegion
/-
  Contracts: copies of lists of numbers; the log's last number, asked of a node; a message more.
  Conditions: the lists can be read.
-/
namespace Go.Proofs.YtdladjgdhnkkcaaGreat
open Go.RowKit
set_option linter.unusedVariables false
set_option linter.unusedSimpArgs false
set_option maxHeartbeats 1000000

/-- a copy: new memory -/
def Copied (k : IntKind) (e : TypeId) (l : List Int) (w : World) (en : Ending) (w' : World) : Prop :=
  (∃ A c, en = .returned (.slice A l.length c) ∧ OwnL (layI k) e w' w.heap.size (.slice A l.length c) l ∧ l.length ≤ c ∧ c ≤ maxLen) ∧ Below w.heap.size w w'

theorem cloneG_calls (A : Option Addr) (cap : Nat) (l : List Int) (w : World) (hR : Hid (RdI w A l)) (hlen : l.length ≤ 20000000000000) :
    Calls Tryz.prog 55 #[.slice A l.length cap] w (Copied .i64 3 l w) := by
  have q22 : ∀ (w : World) (a : Option Addr) (n c n' c' : Nat), (binOp .eql 22 (.slice a n c) (.slice none n' c')).run Tryz.prog w = .ok (.bool a.isNone) w := fun w a n c n' c' => Lib.run_eql_slice_nil w _ _ a n c n' c' Tryz.underlying22
  rcases A with _ | a
  · have hn : l = [] := by
      rcases Nat.eq_zero_or_pos l.length with h0 | h0
      · exact List.eq_nil_of_length_eq_zero h0
      · obtain ⟨_, _, e, _⟩ := hR.out.ex h0
        cases e
    subst hn
    simp only [List.length_nil]
    go_enter Tryz.func55, Tryz.ntmps55
    go_wp2_with fail
    go_ret
    exact ⟨⟨none, 0, rfl, OwnL.nil _ _, by simp, by simp [maxLen]⟩, Below.refl _ _⟩
  · have hbn := Lib.hid (bel_new (Below.refl w.heap.size w) (.cells #[] 3))
    have HLIT := Lib.hid (OwnL.lit (L := layI .i64) (e := 3) w w.heap.size (Nat.le_refl _) [] (by simp) #[] rfl)
    go_enter Tryz.func55, Tryz.ntmps55
    go_wp2_with (first
      | (at_builtin
         refine wpList_appL 22 _ 8 Tryz.underlying22 infoI rfl rfl (.tmp 5) (.tmp 6) rfl w.heap.size _ [] rfl HLIT.out (some a) l.length cap l rfl rfl (hR.out.bel hbn.out) (by simp [maxLen]; omega) (by simp; omega) (by simp) ?_
         intro v1 w1 ho1 hg1
         have hb1 := Lib.hid (OwnL.grown HLIT.out hbn.out (by simp) hg1)
         rw [List.nil_append] at ho1
         obtain ⟨A1, c1, rfl, hc1, hm1, _⟩ := ho1.form
         clear hg1))
    go_ret
    exact ⟨⟨A1, c1, rfl, ho1, hc1, hm1⟩, hb1.out⟩

theorem cloneL_calls (A : Option Addr) (cap : Nat) (l : List Int) (w : World) (hR : Hid (RdL (layI .i64) w A l)) (hlen : l.length ≤ 20000000000000) :
    Calls Tryz.prog 83 #[.slice A l.length cap] w (Copied .i64 2 l w) := by
  have q22 : ∀ (w : World) (a : Option Addr) (n c n' c' : Nat), (binOp .eql 26 (.slice a n c) (.slice none n' c')).run Tryz.prog w = .ok (.bool a.isNone) w := fun w a n c n' c' => Lib.run_eql_slice_nil w _ _ a n c n' c' Tryz.underlying26
  rcases A with _ | a
  · have hn : l = [] := by
      rcases Nat.eq_zero_or_pos l.length with h0 | h0
      · exact List.eq_nil_of_length_eq_zero h0
      · obtain ⟨_, _, e, _⟩ := hR.out.ex h0
        cases e
    subst hn
    simp only [List.length_nil]
    go_enter Tryz.func83, Tryz.ntmps83
    go_wp2_with fail
    go_ret
    exact ⟨⟨none, 0, rfl, OwnL.nil _ _, by simp, by simp [maxLen]⟩, Below.refl _ _⟩
  · have hbn := Lib.hid (bel_new (Below.refl w.heap.size w) (.cells #[] 2))
    have HLIT := Lib.hid (OwnL.lit (L := layI .i64) (e := 2) w w.heap.size (Nat.le_refl _) [] (by simp) #[] rfl)
    go_enter Tryz.func83, Tryz.ntmps83
    go_wp2_with (first
      | (at_builtin
         refine wpList_appL 26 _ 8 Tryz.underlying26 infoL rfl rfl (.tmp 5) (.tmp 6) rfl w.heap.size _ [] rfl HLIT.out (some a) l.length cap l rfl rfl (hR.out.bel hbn.out) (by simp [maxLen]; omega) (by simp; omega) (by simp) ?_
         intro v1 w1 ho1 hg1
         have hb1 := Lib.hid (OwnL.grown HLIT.out hbn.out (by simp) hg1)
         rw [List.nil_append] at ho1
         obtain ⟨A1, c1, rfl, hc1, hm1, _⟩ := ho1.form
         clear hg1))
    go_ret
    exact ⟨⟨A1, c1, rfl, ho1, hc1, hm1⟩, hb1.out⟩

/-- a node at block g -/
structure Nd (t : TypeId) (base g : Nat) (col : Nat → Nat) (r : Nod) (x : NdX) (L : List MsgV) (w : World) : Prop where
  ge : base ≤ g
  gc : col g = 1
  blk : Blk w g t (nodeC r x L.length)
  rest : Rest base col r x L w
theorem Nd.bel {t : TypeId} {base g : Nat} {col : Nat → Nat} {r : Nod} {x : NdX} {L : List MsgV} {w w' : World} (h : Nd t base g col r x L w) (hb : Below w.heap.size w w') : Nd t base g col r x L w' :=
  ⟨h.ge, h.gc, h.blk.bel hb, h.rest.bel hb⟩
theorem bel_base {base : Nat} {w w' : World} (h : Below w.heap.size w w') (hb : base ≤ w.heap.size) : Below base w w' := h.mono hb

theorem nlast_calls {base g : Nat} {col : Nat → Nat} {r : Nod} {x : NdX} {L : List MsgV} {w : World} (H : Hid (Nd 53 base g col r x L w)) (hlen : r.es.length ≤ 4096) :
    Calls Tryz.prog 60 #[.pointer (some ⟨g, 0, none⟩)] w fun e w' => e = .returned (.int .i64 (Rf.lastN r)) ∧ Below w.heap.size w w' := by
  obtain ⟨id, conf, term, vote, role, leader, b, bt, es, snap, commit, left, wait, votes, next, mtch⟩ := r
  have hc := H.out.blk.cells
  have HL := Lib.hid (last2_calls b bt x.eA x.ec es w H.out.rest.es.rd (by simp only at hlen; omega))
  dsimp only [nodeC] at hc
  go_enter Tryz.func60, Tryz.ntmps60
  go_wp2_with fail
  refine HL.out.mono ?_
  rintro e w1 ⟨rfl, hb1⟩
  have HB := Lib.hid hb1
  clear hb1 hc
  go_wp2_with fail
  go_ret
  exact ⟨rfl, HB.out⟩
end Go.Proofs.YtdladjgdhnkkcaaGreat

/-
  Contract: a message more is sent.
  Conditions: the node lies in memory.
-/
namespace Go.Proofs.YtdladjgdhnkkcaaGreat
open Go.RowKit
set_option linter.unusedVariables false
set_option linter.unusedSimpArgs false
set_option maxHeartbeats 1000000

section
variable {α : Type} [Inhabited α] {L : Lay α}
theorem step_appAt {P : Program} {e : TypeId} {ops : Array Oper} {o : Oper} {a : Act} {K : Act → World → Prop} {Q : Exit → Act → World → Prop} {E : Prop} {w : World} (t : TypeId) (z : Value) (bytes : Nat) (ht : P.underlying t = some (.slice e))
    (hinfo : (P.info? e).map (fun i => (i.zero, i.size, i.bytes)) = some (some z, L.k, bytes)) (hz : z.cells.size = L.k) (hgd : o.guard = none) (s x : Operand)
    (ho : o.op = .call { callee := .builtin .append, args := #[s, x], argTypes := #[t, t] })
    (base : Nat) (v : Value) (xs : List α) (hs : a.eval s = v) (hown : OwnL L e w base v xs) (A : Addr) (n c : Nat) (ys : List α) (hx : a.eval x = .slice (some A) n c) (hn : n = ys.length) (hr : RdL L w (some A) ys)
    (hm : xs.length + ys.length ≤ maxLen) (hb : (xs.length + ys.length) * bytes ≤ 140737488355328) (hbase : base ≤ w.heap.size)
    (h : ∀ v' w', OwnL L e w' base v' (xs ++ ys) → w.grownBy w' v.ownBlock → (v'.ownBlock = v.ownBlock ∨ v'.ownBlock = some w.heap.size) → K (a.put o.dst v') w') :
    if Region.wanted o (yielded ops a.tmps) = true then Oper.wp P o a w K Q else E := by
  have hw : Region.wanted o (yielded ops a.tmps) = true := by simp [Region.wanted, hgd]
  rw [if_pos hw]
  subst hn
  obtain ⟨v', w', hrun, h2, h3, h4⟩ := run_appAt w t o.type z bytes ht hinfo hz base v xs hown A c ys hr hm hb hbase
  unfold Oper.wp execOp
  simp only [ho, resolve, invoke, builtin, Sem.run_bind, Sem.run_pure, Result.andThen_ok, List.map_toArray, List.map_cons, List.map_nil, hs, hx, hrun]
  exact h v' w' h2 h3 h4
end
theorem rdL_lit {α : Type} [Inhabited α] {L : Lay α} (w : World) (e : TypeId) (xs : List α) (hm : xs.length ≤ maxLen) (cs : Array Value) (hc : cs = (L.flat xs).toArray) : RdL L (w.alloc (.cells cs e)) (some ⟨w.heap.size, 0, none⟩) xs := by
  obtain ⟨A, cap, e, _, _, h, _⟩ := (OwnL.lit (e := e) w w.heap.size (Nat.le_refl _) xs hm cs hc).form
  injection e with e
  subst e
  exact h
/-- append to what is sent -/
theorem Nd.out_put {t : TypeId} {base g : Nat} {col : Nat → Nat} {r : Nod} {x : NdX} {L : List MsgV} {w w' : World} (h : Nd t base g col r x L w) {A : Option Addr} {c : Nat} {y : MsgV} (ho : OwnL layM 30 w' base (.slice A (L ++ [y]).length c) (L ++ [y])) (hg : w.grownBy w' (Value.slice x.oA L.length x.oc).ownBlock)
    (h3 : (Value.slice A (L ++ [y]).length c).ownBlock = (Value.slice x.oA L.length x.oc).ownBlock ∨ (Value.slice A (L ++ [y]).length c).ownBlock = some w.heap.size) (hy : y.m.es.length ≤ y.cap ∧ RdZ base col w y.A y.cap y.m.es) :
    Blk w' g t (nodeC r x L.length) ∧ Below base w w' ∧ ∀ W, W = w'.setCell ⟨g, 16, none⟩ (.slice A (L ++ [y]).length c) → Nd t base g (recol col w.heap.size 5) r { x with oA := A, oc := c } (L ++ [y]) W := by
  have hgl := h.blk.lt
  have hb : Blk w' g t (nodeC r x L.length) := (hg.block g hgl (fun e => by have := h.rest.outc g e.symm; rw [h.gc] at this; cases this)).trans h.blk
  have hcg : recol col w.heap.size 5 g = 1 := by rw [recol_old hgl]; exact h.gc
  refine ⟨hb, h.rest.out.grown (Below.refl _ _) h.rest.bs hg, fun W hW => ?_⟩
  subst hW
  exact ⟨h.ge, hcg, hb.set 16 _, (h.rest.out_put ho hg h3 hy).set1 hcg _⟩
/-- a message as a value -/
abbrev msgV (m : Msg) (A : Option Addr) (cap : Nat) : Value := .agg #[.int .i64 m.kind, .int .i64 m.src, .int .i64 m.dst, .int .i64 m.term, .int .i64 m.index, .int .i64 m.lterm, .int .i64 m.commit, .bool m.yes, .slice A m.es.length cap, .string m.data]
theorem infoM : (Tryz.prog.info? 30).map (fun i => (i.zero, i.size, i.bytes)) = some (some (.agg #[.int .i64 0, .int .i64 0, .int .i64 0, .int .i64 0, .int .i64 0, .int .i64 0, .int .i64 0, .bool false, .slice none 0 0, .string ByteArray.empty]), 10, 104) := by kernel_rfl

/-- a message, said by a node -/
abbrev Rf.say (r : Nod) (m : Msg) : Msg := { m with src := r.id, term := r.term }
/-- what a message more leaves -/
def Sent (t : TypeId) (base g : Nat) (r : Nod) (x : NdX) (L : List MsgV) (w : World) (e : Ending) (w' : World) : Prop :=
  e = .returned (.tuple #[]) ∧ (∃ col oA oc, Nd t base g col r { x with oA := oA, oc := oc } L w') ∧ Below base w w'

set_option maxRecDepth 20000 in
theorem send_calls {base g : Nat} {col : Nat → Nat} {r : Nod} {x : NdX} {L : List MsgV} {w : World} (H : Hid (Nd 53 base g col r x L w)) (hL : L.length ≤ 1000) (m : Msg) (A : Option Addr) (cap : Nat) (hm : Hid (m.es.length ≤ cap ∧ RdZ base col w A cap m.es)) :
    Calls Tryz.prog 56 #[.pointer (some ⟨g, 0, none⟩), msgV m A cap] w (Sent 53 base g r x (L ++ [⟨Rf.say r m, A, cap⟩]) w) := by
  obtain ⟨id, conf, term, vote, role, leader, b, bt, es, snap, commit, left, wait, votes, next, mtch⟩ := r
  obtain ⟨mk, ms, md, mt, mi, ml, mc, my, me, mdt⟩ := m
  have hc := H.out.blk.cells
  have hlt := H.out.blk.lt
  have hgf := H.out.blk.free
  dsimp only [nodeC] at hc
  go_enter Tryz.func56, Tryz.ntmps56
  go_wp2_with fail
  go_region
  have HB := Lib.hid (bel_drew (bel_new (Below.refl w.heap.size w) (.cells #[.int .i64 mk, .int .i64 id, .int .i64 md, .int .i64 term, .int .i64 mi, .int .i64 ml, .int .i64 mc, .bool my, .slice A me.length cap, .string mdt] 30)))
  have hm1 := (Blk.new w 30 #[.int .i64 mk, .int .i64 id, .int .i64 md, .int .i64 term, .int .i64 mi, .int .i64 ml, .int .i64 mc, .bool my, .slice A me.length cap, .string mdt]).drewN 1
  have hs1 : (w.alloc (.cells #[.int .i64 mk, .int .i64 id, .int .i64 md, .int .i64 term, .int .i64 mi, .int .i64 ml, .int .i64 mc, .bool my, .slice A me.length cap, .string mdt] 30)).drew.heap.size = w.heap.size + 1 := by simp
  change Blk (w.alloc (.cells #[.int .i64 mk, .int .i64 id, .int .i64 md, .int .i64 term, .int .i64 mi, .int .i64 ml, .int .i64 mc, .bool my, .slice A me.length cap, .string mdt] 30)).drew w.heap.size _ _ at hm1
  generalize (w.alloc (.cells #[.int .i64 mk, .int .i64 id, .int .i64 md, .int .i64 term, .int .i64 mi, .int .i64 ml, .int .i64 mc, .bool my, .slice A me.length cap, .string mdt] 30)).drew = W at *
  have N1 := Lib.hid (H.out.bel HB.out)
  have Z1 := Lib.hid (And.intro hm.out.1 (hm.out.2.bel HB.out))
  have hW : W.drew.heap.size = w.heap.size + 1 := hs1
  have HS := Lib.hid hW
  have c1 : ∀ i, W.cell? ⟨g, i, none⟩ = (#[.int .i64 id, .slice x.cA conf.length x.cc, .int .i64 term, .int .i64 vote, .int .i64 role, .int .i64 leader, .int .i64 b, .int .i64 bt, .slice x.eA es.length x.ec, .string snap, .int .i64 commit, .int .i64 left, .int .i64 wait, .slice x.vA votes.length x.vc, .slice x.nA next.length x.nc, .slice x.mA mtch.length x.mc, .slice x.oA L.length x.oc] : Array Value)[i]? := N1.out.blk.cells
  have f1 : ∀ i, W.frozen? ⟨g, i, none⟩ = false := N1.out.blk.free
  have m1 := hm1.cells
  have hg1 : g < W.heap.size := N1.out.blk.lt
  have HG := Lib.hid hg1
  clear hc hgf hm1 hs1 hW H hm
  go_wp2_with fail
  go_region_law (first
    | (refine step_appAt 32 _ 104 Tryz.underlying32 infoM rfl rfl (.tmp 20) (.tmp 22) rfl base _ L rfl (N1.out.rest.out.kept (bel_drew (bel_new (Below.refl _ W) (.cells #[.int .i64 mk, .int .i64 id, .int .i64 md, .int .i64 term, .int .i64 mi, .int .i64 ml, .int .i64 mc, .bool my, .slice A me.length cap, .string mdt] 30)))) ⟨W.heap.size, 0, none⟩ 1 1 [⟨⟨mk, id, md, term, mi, ml, mc, my, me, mdt⟩, A, cap⟩] rfl rfl (rdL_lit W _ _ (by simp [maxLen]) _ rfl) (by simp [maxLen]; omega) (by simp; omega) (by have := N1.out.rest.bs; simp; omega) ?_
       intro v1 w1 ho1 hg1 h31
       obtain ⟨A1, cp1, rfl, _, _, _, _⟩ := ho1.form
       have HB2 := Lib.hid (bel_drew (bel_new (Below.refl W.heap.size W) (.cells #[.int .i64 mk, .int .i64 id, .int .i64 md, .int .i64 term, .int .i64 mi, .int .i64 ml, .int .i64 mc, .bool my, .slice A me.length cap, .string mdt] 30)))
       have HP := Lib.hid ((N1.out.bel HB2.out).out_put ho1 hg1 h31 ⟨Z1.out.1, Z1.out.2.bel HB2.out⟩)
       have c2 : ∀ i, w1.cell? ⟨g, i, none⟩ = (#[.int .i64 id, .slice x.cA conf.length x.cc, .int .i64 term, .int .i64 vote, .int .i64 role, .int .i64 leader, .int .i64 b, .int .i64 bt, .slice x.eA es.length x.ec, .string snap, .int .i64 commit, .int .i64 left, .int .i64 wait, .slice x.vA votes.length x.vc, .slice x.nA next.length x.nc, .slice x.mA mtch.length x.mc, .slice x.oA L.length x.oc] : Array Value)[i]? := HP.out.1.cells
       have f2 : ∀ i, w1.frozen? ⟨g, i, none⟩ = false := HP.out.1.free
       clear ho1 hg1 h31))
  all_goals
    go_wp2_with fail
    go_end0
    refine ⟨rfl, ⟨_, A1, cp1, HP.out.2.2 _ (by simp)⟩, ?_⟩
    have hbs := N1.out.rest.bs
    have h1 : Below base w W := HB.out.mono (by have := N1.out.ge; have := HS.out; omega)
    exact ((h1.trans (HB2.out.mono hbs)).trans HP.out.2.1).setCell N1.out.ge _
end Go.Proofs.YtdladjgdhnkkcaaGreat
