
/-
  Contract: entries come.
  Conditions: the node lies in memory and is right, the message may be.
-/
import Derived.Test.YtdladjgdhnkkcaaGreatZRf11
import Derived.Test.YtdladjgdhnkkcaaGreatZTail
import Derived.Lib.MinMax
import Derived.BigQuiet
namespace Go.Proofs.YtdladjgdhnkkcaaGreat
open Go.RowKit
set_option linter.unusedVariables false
set_option linter.unusedSimpArgs false
set_option maxHeartbeats 20000000

/-- entries that can be read, below base -/
def RdB (base : Nat) (w : World) (A : Option Addr) (es : List En) : Prop := RdE w A es ∧ (0 < es.length → ∀ b off sp, A = some ⟨b, off, sp⟩ → b < base)
theorem RdB.low {base : Nat} {w w' : World} {A : Option Addr} {es : List En} (h : RdB base w A es) (hb : Below base w w') : RdB base w' A es := by
  refine ⟨fun i hi => ?_, h.2⟩
  obtain ⟨b, off, e, hlt, h1, h2⟩ := h.1 i hi
  have hbb := h.2 (by omega) b off none e
  exact ⟨b, off, e, Nat.lt_of_lt_of_le hlt hb.size, (hb.cell (p := ⟨b, off + i * 2, none⟩) hbb).trans h1, (hb.cell (p := ⟨b, off + i * 2 + 1, none⟩) hbb).trans h2⟩
theorem Blk.same {w w' : World} {g : Nat} {t : TypeId} {cs : Array Value} (h : Blk w g t cs) (hs : w'.heap[g]? = w.heap[g]?) : Blk w' g t cs := hs.trans h
/-- a block is read from every world since w1 -/
theorem Blk.ins {w1 : World} {g : Nat} {t : TypeId} {cs : Array Value} (h : Blk w1 g t cs) (z : InS (Sb w1)) : ∀ i, z.val.cell? ⟨g, i, none⟩ = cs[i]? := fun i => (z.ok.cell (p := ⟨g, i, none⟩) h.lt).trans (h.cells i)

set_option maxRecDepth 20000 in
theorem take_calls {base g : Nat} {col : Nat → Nat} {r : Nod} {x : NdX} {L : List MsgV} {w : World} (H : Hid (Nd 53 base g col r x L w)) (hL : L.length ≤ 800) (hB : Hid (Rf.Base r)) (m : Msg) (hT : Hid (Rf.Takes r m)) (A : Option Addr) (cap : Nat) (hm : Hid (m.es.length ≤ cap ∧ RdB base w A m.es)) :
    Calls Tryz.prog 23 #[.pointer (some ⟨g, 0, none⟩), msgV m A cap] w (Led 53 base g (Rf.take r m).1 x L (Rf.take r m).2 w) := by
  obtain ⟨q, hq⟩ : ∃ q, q = Rf.take r m := ⟨_, rfl⟩
  rw [← hq]
  have HQ := Lib.hid hq
  unfold Rf.take at HQ
  obtain ⟨o, ho⟩ : ∃ o, o = Rf.put (Rf.follow r m) m := ⟨_, rfl⟩
  rw [← ho] at HQ
  have HO := Lib.hid ho
  have hrim := Tr.chk_rim hB.out.trail
  have hln : Rf.lastN r = r.b + r.es.length := by unfold Rf.lastN; exact Rf.lastN_eq hB.out.trail
  have hl01 : 0 ≤ Rf.lastN r ∧ Rf.lastN r ≤ 1099511627776 := by rw [hln]; omega
  have hc01 : 0 ≤ r.commit ∧ r.commit ≤ 1099511627776 := by have := hB.out.com0; have := hB.out.com1; omega
  have hi0 := hT.out.i0
  have hi1 := hT.out.i1
  have hmc0 := hT.out.c0
  have hmc1 := hT.out.c1
  have hes := hT.out.es
  have hlen : r.es.length ≤ 4096 := hrim.2.2.2.2.2.1
  have hb01 : 0 ≤ r.b ∧ r.b ≤ 1099511627776 := ⟨hrim.1, hrim.2.1⟩
  have hput : ∀ es', o = some es' → 0 ≤ Tr.lastN r.b r.bt es' ∧ Tr.lastN r.b r.bt es' ≤ 1099511627776 ∧ es'.length ≤ 4096 := fun es' he => by
    have hp := Tr.put_chk (show Tr.put r.b r.bt r.es m.index m.lterm m.es r.commit = some es' from ho.symm.trans he)
    have h2 := Tr.chk_rim hp
    rw [Rf.lastN_eq hp]
    exact ⟨by omega, by omega, h2.2.2.2.2.2.1⟩
  have HPUT := Lib.hid hput
  clear hq ho hrim hln hput
  obtain ⟨id, conf, term, vote, role, leader, b, bt, es, snap, commit, left, wait, votes, next, mtch⟩ := r
  obtain ⟨mk, ms, md, mt, mi, ml, mc, my, me, mdt⟩ := m
  obtain ⟨cA, cc, eA, ec, vA, vc, nA, nc, mA, mc0, oA, oc⟩ := x
  simp only at hc01 hi0 hi1 hmc0 hmc1 hes hlen hb01
  have HB1 := Lib.hid (bel_new (Below.refl w.heap.size w) (.cells #[.int .i64 mk, .int .i64 ms, .int .i64 md, .int .i64 mt, .int .i64 mi, .int .i64 ml, .int .i64 mc, .bool my, .slice A me.length cap, .string mdt] 30))
  have N1 := Lib.hid (H.out.bel HB1.out)
  have HM1 := Lib.hid (Blk.new w 30 #[.int .i64 mk, .int .i64 ms, .int .i64 md, .int .i64 mt, .int .i64 mi, .int .i64 ml, .int .i64 mc, .bool my, .slice A me.length cap, .string mdt])
  have HE1 := Lib.hid (hm.out.2.low (bel_base HB1.out H.out.rest.bs))
  have HFO := Lib.hid (follow_calls14 N1 ⟨mk, ms, md, mt, mi, ml, mc, my, me, mdt⟩ A cap)
  have hmbg : w.heap.size ≠ g := by have := H.out.blk.lt; omega
  have HMBG := Lib.hid hmbg
  clear hmbg
  go_enter Tryz.func23, Tryz.ntmps23
  go_wp2_with fail
  refine HFO.out.mono ?_
  rintro e w2 ⟨rfl, ⟨col2, hN2⟩, hb2, hal⟩
  have N2 : Hid (Nd 53 base g col2 ⟨id, conf, term, vote, 0, ms, b, bt, es, snap, commit, wait, wait, [], next, mtch⟩ ⟨cA, cc, eA, ec, none, 0, nA, nc, mA, mc0, oA, oc⟩ L w2) := Lib.hid hN2
  have HB2 := Lib.hid ((bel_base HB1.out H.out.rest.bs).trans hb2)
  have HE2 := Lib.hid (HE1.out.low hb2)
  have HM2 := Lib.hid (HM1.out.same (hal w.heap.size HM1.out.lt HMBG.out))
  clear hN2 hb2 HFO hal
  have HPC : Hid (∀ W, RdE W eA es → RdE W A me → Calls Tryz.prog 65 #[trV b bt eA es.length ec, .int .i64 mi, .int .i64 ml, .slice A me.length cap, .int .i64 commit] W fun e w' => (∃ v, e = .returned v ∧ ResT W.heap.size b bt o v w') ∧ Below W.heap.size W w') := Lib.hid (fun W hR hM => by
    rw [show o = Tr.put b bt es mi ml me commit from HO.out]
    exact put_calls b bt mi ml commit eA ec es A cap me W hR hM (by omega) N2.out.rest.es.le (by omega) hm.out.1 (by omega))
  have HNE : Hid (g ≠ w2.heap.size) := Lib.hid (by have := N2.out.blk.lt; omega)
  have HNE2 : Hid (w.heap.size ≠ w2.heap.size) := Lib.hid (by have := HM2.out.lt; omega)
  have KA := Lib.hid (N2.out.bel (bel_drew (bel_new (Below.refl w2.heap.size w2) (.cells #[.int .i64 0, .int .i64 0, .slice none 0 0] 25))))
  have KM := Lib.hid (HM2.out.bel (bel_drew (bel_new (Below.refl w2.heap.size w2) (.cells #[.int .i64 0, .int .i64 0, .slice none 0 0] 25))))
  have hcc : ∀ i, w2.cell? ⟨g, i, none⟩ = (#[.int .i64 id, .slice cA conf.length cc, .int .i64 term, .int .i64 vote, .int .i64 0, .int .i64 ms, .int .i64 b, .int .i64 bt, .slice eA es.length ec, .string snap, .int .i64 commit, .int .i64 wait, .int .i64 wait, .slice none 0 0, .slice nA next.length nc, .slice mA mtch.length mc0, .slice oA L.length oc] : Array Value)[i]? := N2.out.blk.cells
  have hmm : ∀ i, w2.cell? ⟨w.heap.size, i, none⟩ = (#[.int .i64 mk, .int .i64 ms, .int .i64 md, .int .i64 mt, .int .i64 mi, .int .i64 ml, .int .i64 mc, .bool my, .slice A me.length cap, .string mdt] : Array Value)[i]? := HM2.out.cells
  have KK2 := Lib.hid (show w2.drew.cell? ⟨g, 6, none⟩ = some (.int .i64 b) ∧ w2.drew.cell? ⟨g, 7, none⟩ = some (.int .i64 bt) ∧ w2.drew.cell? ⟨g, 8, none⟩ = some (.slice eA es.length ec) ∧ w2.drew.cell? ⟨g, 10, none⟩ = some (.int .i64 commit) ∧ w2.drew.cell? ⟨w.heap.size, 4, none⟩ = some (.int .i64 mi) ∧ w2.drew.cell? ⟨w.heap.size, 5, none⟩ = some (.int .i64 ml) ∧ w2.drew.cell? ⟨w.heap.size, 8, none⟩ = some (.slice A me.length cap) from ⟨(N2.out.blk).cells 6, (N2.out.blk).cells 7, (N2.out.blk).cells 8, (N2.out.blk).cells 10, (HM2.out).cells 4, (HM2.out).cells 5, (HM2.out).cells 8⟩)
  have KKA := Lib.hid (show ((w2.alloc (.cells #[.int .i64 0, .int .i64 0, .slice none 0 0] 25)).drew).cell? ⟨g, 6, none⟩ = some (.int .i64 b) ∧ ((w2.alloc (.cells #[.int .i64 0, .int .i64 0, .slice none 0 0] 25)).drew).cell? ⟨g, 7, none⟩ = some (.int .i64 bt) ∧ ((w2.alloc (.cells #[.int .i64 0, .int .i64 0, .slice none 0 0] 25)).drew).cell? ⟨g, 8, none⟩ = some (.slice eA es.length ec) ∧ ((w2.alloc (.cells #[.int .i64 0, .int .i64 0, .slice none 0 0] 25)).drew).cell? ⟨g, 10, none⟩ = some (.int .i64 commit) ∧ ((w2.alloc (.cells #[.int .i64 0, .int .i64 0, .slice none 0 0] 25)).drew).cell? ⟨w.heap.size, 4, none⟩ = some (.int .i64 mi) ∧ ((w2.alloc (.cells #[.int .i64 0, .int .i64 0, .slice none 0 0] 25)).drew).cell? ⟨w.heap.size, 5, none⟩ = some (.int .i64 ml) ∧ ((w2.alloc (.cells #[.int .i64 0, .int .i64 0, .slice none 0 0] 25)).drew).cell? ⟨w.heap.size, 8, none⟩ = some (.slice A me.length cap) from ⟨(KA.out.blk).cells 6, (KA.out.blk).cells 7, (KA.out.blk).cells 8, (KA.out.blk).cells 10, (KM.out).cells 4, (KM.out).cells 5, (KM.out).cells 8⟩)
  clear hcc hmm
  go_wp2_with fail
  go_region_held3 (fun W => W.cell? ⟨g, 6, none⟩ = some (.int .i64 b) ∧ W.cell? ⟨g, 7, none⟩ = some (.int .i64 bt) ∧ W.cell? ⟨g, 8, none⟩ = some (.slice eA es.length ec) ∧ W.cell? ⟨g, 10, none⟩ = some (.int .i64 commit) ∧ W.cell? ⟨w.heap.size, 4, none⟩ = some (.int .i64 mi) ∧ W.cell? ⟨w.heap.size, 5, none⟩ = some (.int .i64 ml) ∧ W.cell? ⟨w.heap.size, 8, none⟩ = some (.slice A me.length cap))
    (first | exact KK2.out | exact KK7.out | exact KKA.out | exact ⟨((N7.out.bel (bel_new (Below.refl _ _) _)).blk).cells 6, ((N7.out.bel (bel_new (Below.refl _ _) _)).blk).cells 7, ((N7.out.bel (bel_new (Below.refl _ _) _)).blk).cells 8, ((N7.out.bel (bel_new (Below.refl _ _) _)).blk).cells 10, (HM7.out.bel (bel_new (Below.refl _ _) _)).cells 4, (HM7.out.bel (bel_new (Below.refl _ _) _)).cells 5, (HM7.out.bel (bel_new (Below.refl _ _) _)).cells 8⟩ | exact ⟨((((N7.out.blk.far HNE.out _).far HNE.out _).far HNE.out _)).cells 6, ((((N7.out.blk.far HNE.out _).far HNE.out _).far HNE.out _)).cells 7, ((((N7.out.blk.far HNE.out _).far HNE.out _).far HNE.out _)).cells 8, ((((N7.out.blk.far HNE.out _).far HNE.out _).far HNE.out _)).cells 10, ((((HM7.out.far HNE2.out _).far HNE2.out _).far HNE2.out _)).cells 4, ((((HM7.out.far HNE2.out _).far HNE2.out _).far HNE2.out _)).cells 5, ((((HM7.out.far HNE2.out _).far HNE2.out _).far HNE2.out _)).cells 8⟩)
    (first
      | (go_at_call 65
         refine (HPC.out w2.drew N2.out.rest.es.rd HE2.out.1).mono ?_
         rintro e w7 ⟨⟨v, rfl, hv⟩, hb7⟩
         obtain ⟨tb, tbt, tA, tn, tc, ok, rfl, HOK⟩ := hv.one
         have N7 := Lib.hid ((N2.out.bel (bel_drew (Below.refl _ _))).bel hb7)
         have HM7 := Lib.hid ((HM2.out.bel (bel_drew (Below.refl _ _))).bel hb7)
         have KK7 := Lib.hid (show w7.cell? ⟨g, 6, none⟩ = some (.int .i64 b) ∧ w7.cell? ⟨g, 7, none⟩ = some (.int .i64 bt) ∧ w7.cell? ⟨g, 8, none⟩ = some (.slice eA es.length ec) ∧ w7.cell? ⟨g, 10, none⟩ = some (.int .i64 commit) ∧ w7.cell? ⟨w.heap.size, 4, none⟩ = some (.int .i64 mi) ∧ w7.cell? ⟨w.heap.size, 5, none⟩ = some (.int .i64 ml) ∧ w7.cell? ⟨w.heap.size, 8, none⟩ = some (.slice A me.length cap) from ⟨(N7.out.blk).cells 6, (N7.out.blk).cells 7, (N7.out.blk).cells 8, (N7.out.blk).cells 10, (HM7.out).cells 4, (HM7.out).cells 5, (HM7.out).cells 8⟩)
         have HB7 := Lib.hid (bel_tr (bel_drew (Below.refl w2.heap.size w2)) hb7)
         clear hv hb7)
      | (go_at_call 65
         refine (HPC.out ((w2.alloc (.cells #[.int .i64 0, .int .i64 0, .slice none 0 0] 25)).drew) KA.out.rest.es.rd (HE2.out.1.bel (bel_drew (bel_new (Below.refl _ _) _)))).mono ?_
         rintro e w7 ⟨⟨v, rfl, hv⟩, hb7⟩
         obtain ⟨tb, tbt, tA, tn, tc, ok, rfl, HOK⟩ := hv.one
         have N7 := Lib.hid (KA.out.bel hb7)
         have HM7 := Lib.hid (KM.out.bel hb7)
         have HB7 := Lib.hid (bel_tr (bel_drew (bel_new (Below.refl w2.heap.size w2) (.cells #[.int .i64 0, .int .i64 0, .slice none 0 0] 25))) hb7)
         have KK7 := Lib.hid (show w7.cell? ⟨g, 6, none⟩ = some (.int .i64 b) ∧ w7.cell? ⟨g, 7, none⟩ = some (.int .i64 bt) ∧ w7.cell? ⟨g, 8, none⟩ = some (.slice eA es.length ec) ∧ w7.cell? ⟨g, 10, none⟩ = some (.int .i64 commit) ∧ w7.cell? ⟨w.heap.size, 4, none⟩ = some (.int .i64 mi) ∧ w7.cell? ⟨w.heap.size, 5, none⟩ = some (.int .i64 ml) ∧ w7.cell? ⟨w.heap.size, 8, none⟩ = some (.slice A me.length cap) from ⟨(N7.out.blk).cells 6, (N7.out.blk).cells 7, (N7.out.blk).cells 8, (N7.out.blk).cells 10, (HM7.out).cells 4, (HM7.out).cells 5, (HM7.out).cells 8⟩)
         have HZ7 := Lib.hid (((Blk.new w2 25 #[.int .i64 0, .int .i64 0, .slice none 0 0]).drewN 1).bel hb7)
         have z7 := HZ7.out.free
         have y7 := HZ7.out.cells
         clear hv hb7))
  · have HZ8 := Lib.hid (Blk.new w7 25 #[.int .i64 tb, .int .i64 tbt, .slice tA tn tc])
    have N8 := Lib.hid (N7.out.bel (bel_new (Below.refl _ _) (.cells #[.int .i64 tb, .int .i64 tbt, .slice tA tn tc] 25)))
    have HM8 := Lib.hid (HM7.out.bel (bel_new (Below.refl _ _) (.cells #[.int .i64 tb, .int .i64 tbt, .slice tA tn tc] 25)))
    have HB82 := Lib.hid (bel_new HB7.out (.cells #[.int .i64 tb, .int .i64 tbt, .slice tA tn tc] 25))
    have HR8 : Hid (∀ es', o = some es' → tb = b ∧ tbt = bt ∧ tn = es'.length ∧ OwnE (w7.alloc (.cells #[.int .i64 tb, .int .i64 tbt, .slice tA tn tc] 25)) w2.heap.size (.slice tA tn tc) es') := Lib.hid (fun es' h => by
      obtain ⟨h1, h2, h3, h4⟩ := HOK.out.2 es' h
      exact ⟨h1, h2, h3, h4.kept (bel_new (Below.refl _ _) _)⟩)
    generalize hW8 : w7.alloc (.cells #[.int .i64 tb, .int .i64 tbt, .slice tA tn tc] 25) = W8 at *
    clear hW8
    have HB8 := Lib.hid (HB2.out.trans (bel_base HB82.out N2.out.rest.bs))
    have e8 := N8.out.blk.free
    have t8 := HZ8.out.cells
    have cc8 : ∀ i, W8.cell? ⟨g, i, none⟩ = (#[.int .i64 id, .slice cA conf.length cc, .int .i64 term, .int .i64 vote, .int .i64 0, .int .i64 ms, .int .i64 b, .int .i64 bt, .slice eA es.length ec, .string snap, .int .i64 commit, .int .i64 wait, .int .i64 wait, .slice none 0 0, .slice nA next.length nc, .slice mA mtch.length mc0, .slice oA L.length oc] : Array Value)[i]? := N8.out.blk.cells
    have mm8 : ∀ i, W8.cell? ⟨w.heap.size, i, none⟩ = (#[.int .i64 mk, .int .i64 ms, .int .i64 md, .int .i64 mt, .int .i64 mi, .int .i64 ml, .int .i64 mc, .bool my, .slice A me.length cap, .string mdt] : Array Value)[i]? := HM8.out.cells
    have d8 := N8.out.blk.lt
    have hlnv : Rf.lastN ⟨id, conf, term, vote, 0, ms, b, bt, es, snap, commit, wait, wait, [], next, mtch⟩ = Rf.lastN ⟨id, conf, term, vote, role, leader, b, bt, es, snap, commit, left, wait, votes, next, mtch⟩ := rfl
    have HLC := Lib.hid (fun W (h : Hid (Nd 53 base g col2 ⟨id, conf, term, vote, 0, ms, b, bt, es, snap, commit, wait, wait, [], next, mtch⟩ ⟨cA, cc, eA, ec, none, 0, nA, nc, mA, mc0, oA, oc⟩ L W)) => nlast_calls h hlen)
    rw [hlnv] at HLC
    generalize hlg : Rf.lastN (⟨id, conf, term, vote, role, leader, b, bt, es, snap, commit, left, wait, votes, next, mtch⟩ : Nod) = ln at *
    have HLG := Lib.hid hlg
    clear hlnv hlg
    have hwi : IntKind.i64.wrap (mi - 1) = mi - 1 := IntWalk.i64_in _ (by omega)
    cases ok with
    | false =>
      have hon : o = none := by have := HOK.out.1; cases o with | none => rfl | some _ => cases this
      rw [hon] at HQ
      have SX : Sb W8 W8.drew := Below.drew (Below.refl _ _)
      have hne : Nonempty (InS (Sb W8)) := ⟨⟨_, SX⟩⟩
      have k0 : ∀ (z : InS (Sb W8)) i, z.val.cell? ⟨g, i, none⟩ = (#[.int .i64 id, .slice cA conf.length cc, .int .i64 term, .int .i64 vote, .int .i64 0, .int .i64 ms, .int .i64 b, .int .i64 bt, .slice eA es.length ec, .string snap, .int .i64 commit, .int .i64 wait, .int .i64 wait, .slice none 0 0, .slice nA next.length nc, .slice mA mtch.length mc0, .slice oA L.length oc] : Array Value)[i]? := N8.out.blk.ins
      have k1 : ∀ (z : InS (Sb W8)) i, z.val.cell? ⟨w.heap.size, i, none⟩ = (#[.int .i64 mk, .int .i64 ms, .int .i64 md, .int .i64 mt, .int .i64 mi, .int .i64 ml, .int .i64 mc, .bool my, .slice A me.length cap, .string mdt] : Array Value)[i]? := HM8.out.ins
      clear hon
      go_wp2_with fail
      refine wp_region_tail_in 11 (Sb W8) (by kernel_rfl) (by kernel_rfl) SX ?_
      simp only [List.take_succ_cons, List.take_zero, List.drop_succ_cons, List.drop_zero]
      repeat (go_big_quiet_step (((first | (go_at_call 60; exact calls_in_bel (fun _ _ h k => bel_tr h k) (HLC.out _ (Lib.hid (N8.out.ins _))))))))
      first | refine wpQuiet_nil ?_ | go_big_quiet_step (fail)
      intro W9 hW
      have hs9 := in_ok hW
      have N9 := Lib.hid (N8.out.bel hs9)
      have HB9 := Lib.hid (HB8.out.trans (bel_base hs9 N8.out.rest.bs))
      clear hW hs9 k0 k1 SX hne cc8 mm8
      go_wp2_with fail
      refine (send_calls N9 (by omega) ⟨4, 0, ms, 0, min ln (max (mi - 1) 0), 0, 0, false, [], ByteArray.empty⟩ none 0 (Lib.hid ⟨Nat.le_refl _, RdZ.nil⟩)).mono ?_
      rintro e w10 ⟨rfl, ⟨col10, oA10, oc10, hN10⟩, hb10⟩
      have HN10 := Lib.hid hN10
      have HB10 := Lib.hid hb10
      clear hN10 hb10
      go_wp2_with fail
      go_end0
      rw [HQ.out, ← HLG.out]
      exact ⟨rfl, ⟨col10, ⟨cA, cc, eA, ec, none, 0, nA, nc, mA, mc0, oA10, oc10⟩, [⟨⟨4, id, ms, term, min ln (max (mi - 1) 0), 0, 0, false, [], ByteArray.empty⟩, none, 0⟩], rfl, rfl, by rw [HLG.out]; rfl, HN10.out⟩, HB9.out.trans HB10.out⟩
    | true =>
      obtain ⟨es', hoe⟩ : ∃ es', o = some es' := by have := HOK.out.1; cases o with | none => cases this | some e => exact ⟨e, rfl⟩
      obtain ⟨e1, e2, rfl, hOt⟩ := HR8.out es' hoe
      obtain rfl := e1.symm
      obtain rfl := e2.symm
      obtain ⟨p1, p2, p3⟩ := HPUT.out es' hoe
      rw [hoe] at HQ
      have NA : Hid (Nd 53 base g (recol col2 w2.heap.size 0) ⟨id, conf, term, vote, 0, ms, b, bt, es', snap, commit, wait, wait, [], next, mtch⟩ ⟨cA, cc, tA, tc, none, 0, nA, nc, mA, mc0, oA, oc⟩ L (((W8.setCell ⟨g, 6, none⟩ (.int .i64 b)).setCell ⟨g, 7, none⟩ (.int .i64 bt)).setCell ⟨g, 8, none⟩ (.slice tA es'.length tc))) := Lib.hid (N2.out.log_new HB82.out b bt hOt)
      have HMA := Lib.hid (((HM8.out.far (p := ⟨g, 6, none⟩) HMBG.out (.int .i64 b)).far (p := ⟨g, 7, none⟩) HMBG.out (.int .i64 bt)).far (p := ⟨g, 8, none⟩) HMBG.out (.slice tA es'.length tc))
      have HBA := Lib.hid (((HB8.out.setCell (p := ⟨g, 6, none⟩) N2.out.ge (.int .i64 b)).setCell (p := ⟨g, 7, none⟩) N2.out.ge (.int .i64 bt)).setCell (p := ⟨g, 8, none⟩) N2.out.ge (.slice tA es'.length tc))
      obtain ⟨ln2, hln2⟩ : ∃ ln2, ln2 = Tr.lastN b bt es' := ⟨_, rfl⟩
      have hl3 : 0 ≤ ln2 ∧ ln2 ≤ 1099511627776 := by rw [hln2]; exact ⟨p1, p2⟩
      have HLN2 := Lib.hid hln2
      have HLC2 := Lib.hid (fun W (h : Hid (Nd 53 base g (recol col2 w2.heap.size 0) ⟨id, conf, term, vote, 0, ms, b, bt, es', snap, commit, wait, wait, [], next, mtch⟩ ⟨cA, cc, tA, tc, none, 0, nA, nc, mA, mc0, oA, oc⟩ L W)) => nlast_calls h p3)
      rw [show Rf.lastN (⟨id, conf, term, vote, 0, ms, b, bt, es', snap, commit, wait, wait, [], next, mtch⟩ : Nod) = ln2 from HLN2.out.symm] at HLC2
      obtain ⟨en, hen⟩ : ∃ en : Int, en = mi + me.length := ⟨_, rfl⟩
      have hen2 : 0 ≤ en ∧ en ≤ 1099511627800 := by rw [hen]; omega
      have hwe : IntKind.i64.wrap (mi + (me.length : Int)) = en := by rw [hen]; exact IntWalk.i64_in _ (by omega)
      have hwe2 : mi + (me.length : Int) = en := hen.symm
      have HEN := Lib.hid hen
      obtain ⟨cm, hcm⟩ : ∃ cm, cm = max commit (min mc (min en ln2)) := ⟨_, rfl⟩
      have HCM := Lib.hid hcm
      have hmin3 : ∀ (W : World) (ts : Array TypeId) (t : TypeId) (x y z : Int), (Builtin.min_ ts t #[.int .i64 x, .int .i64 y, .int .i64 z]).run Tryz.prog W = .ok (.int .i64 (min (min x y) z)) W := fun W ts t x y z => by
        have e : (if z < (if y < x then y else x) then z else (if y < x then y else x)) = min (min x y) z := by split <;> split <;> omega
        simp [Builtin.min_, Builtin.min2, e]
      have hx1 : ¬ g = w.heap.size := fun e => HMBG.out e.symm
      have hx2 : ¬ w.heap.size = g := HMBG.out
      clear hoe hOt hln2 hen hcm p1 p2
      go_wp2_with fail
      generalize ((W8.setCell ⟨g, 6, none⟩ (.int .i64 b)).setCell ⟨g, 7, none⟩ (.int .i64 bt)).setCell ⟨g, 8, none⟩ (.slice tA es'.length tc) = WA at *
      clear cc8 mm8 e8 t8 d8
      have SX : Sb WA WA.drew := Below.drew (Below.refl _ _)
      have hne : Nonempty (InS (Sb WA)) := ⟨⟨_, SX⟩⟩
      have k0 : ∀ (z : InS (Sb WA)) i, z.val.cell? ⟨g, i, none⟩ = (#[.int .i64 id, .slice cA conf.length cc, .int .i64 term, .int .i64 vote, .int .i64 0, .int .i64 ms, .int .i64 b, .int .i64 bt, .slice tA es'.length tc, .string snap, .int .i64 commit, .int .i64 wait, .int .i64 wait, .slice none 0 0, .slice nA next.length nc, .slice mA mtch.length mc0, .slice oA L.length oc] : Array Value)[i]? := NA.out.blk.ins
      have k1 : ∀ (z : InS (Sb WA)) i, z.val.cell? ⟨w.heap.size, i, none⟩ = (#[.int .i64 mk, .int .i64 ms, .int .i64 md, .int .i64 mt, .int .i64 mi, .int .i64 ml, .int .i64 mc, .bool my, .slice A me.length cap, .string mdt] : Array Value)[i]? := HMA.out.ins
      refine wp_region_tail_in 16 (Sb WA) (by kernel_rfl) (by kernel_rfl) SX ?_
      simp only [List.take_succ_cons, List.take_zero, List.drop_succ_cons, List.drop_zero]
      repeat (go_big_quiet_step (((first | (go_at_call 60; exact calls_in_bel (fun _ _ h k => bel_tr h k) (HLC2.out _ (Lib.hid (NA.out.ins _))))))))
      first | refine wpQuiet_nil ?_ | go_big_quiet_step (fail)
      intro W9 hW
      have hs9 := in_ok hW
      have N9 := Lib.hid (NA.out.bel hs9)
      have HM9 := Lib.hid (HMA.out.bel hs9)
      have HB9 := Lib.hid (HBA.out.trans (bel_base hs9 NA.out.rest.bs))
      have c9 : ∀ i, W9.cell? ⟨g, i, none⟩ = (#[.int .i64 id, .slice cA conf.length cc, .int .i64 term, .int .i64 vote, .int .i64 0, .int .i64 ms, .int .i64 b, .int .i64 bt, .slice tA es'.length tc, .string snap, .int .i64 commit, .int .i64 wait, .int .i64 wait, .slice none 0 0, .slice nA next.length nc, .slice mA mtch.length mc0, .slice oA L.length oc] : Array Value)[i]? := N9.out.blk.cells
      have f9 := N9.out.blk.free
      have d9 := N9.out.blk.lt
      clear hW hs9 k0 k1 SX hne
      go_wp2_with fail
      rw [show max commit (min mc (min en ln2)) = cm from HCM.out.symm]
      have NB := Lib.hid ((N9.out.run.set 10 (.int .i64 cm)).nd ⟨id, conf, term, vote, 0, ms, b, bt, es', snap, cm, wait, wait, [], next, mtch⟩ (by simp only [nodeC, List.setIfInBounds_toArray, List.set_cons_succ, List.set_cons_zero]) rfl rfl rfl rfl rfl)
      have HMB := Lib.hid (HM9.out.far (p := ⟨g, 10, none⟩) HMBG.out (.int .i64 cm))
      have HBB := Lib.hid (HB9.out.setCell (p := ⟨g, 10, none⟩) N2.out.ge (.int .i64 cm))
      generalize W9.setCell ⟨g, 10, none⟩ (.int .i64 cm) = WB at *
      have SX : Sb WB WB.drew := Below.drew (Below.refl _ _)
      have hne : Nonempty (InS (Sb WB)) := ⟨⟨_, SX⟩⟩
      have k0 : ∀ (z : InS (Sb WB)) i, z.val.cell? ⟨g, i, none⟩ = (#[.int .i64 id, .slice cA conf.length cc, .int .i64 term, .int .i64 vote, .int .i64 0, .int .i64 ms, .int .i64 b, .int .i64 bt, .slice tA es'.length tc, .string snap, .int .i64 cm, .int .i64 wait, .int .i64 wait, .slice none 0 0, .slice nA next.length nc, .slice mA mtch.length mc0, .slice oA L.length oc] : Array Value)[i]? := NB.out.blk.ins
      have k1 : ∀ (z : InS (Sb WB)) i, z.val.cell? ⟨w.heap.size, i, none⟩ = (#[.int .i64 mk, .int .i64 ms, .int .i64 md, .int .i64 mt, .int .i64 mi, .int .i64 ml, .int .i64 mc, .bool my, .slice A me.length cap, .string mdt] : Array Value)[i]? := HMB.out.ins
      clear c9 f9 d9
      refine wp_region_tail_in 12 (Sb WB) (by kernel_rfl) (by kernel_rfl) SX ?_
      simp only [List.take_succ_cons, List.take_zero, List.drop_succ_cons, List.drop_zero]
      repeat (go_big_quiet_step (fail))
      first | refine wpQuiet_nil ?_ | go_big_quiet_step (fail)
      intro W11 hW
      have hs9 := in_ok hW
      have N9' := Lib.hid (NB.out.bel hs9)
      have HB9' := Lib.hid (HBB.out.trans (bel_base hs9 NB.out.rest.bs))
      clear hW hs9 k0 k1 SX hne
      go_wp2_with fail
      refine (send_calls N9' (by omega) ⟨4, 0, ms, 0, max en b, 0, 0, true, [], ByteArray.empty⟩ none 0 (Lib.hid ⟨Nat.le_refl _, RdZ.nil⟩)).mono ?_
      rintro e w10 ⟨rfl, ⟨col10, oA10, oc10, hN10⟩, hb10⟩
      have HN10 := Lib.hid hN10
      have HB10 := Lib.hid hb10
      clear hN10 hb10
      go_wp2_with fail
      go_end0
      have hq2 : q = (⟨id, conf, term, vote, 0, ms, b, bt, es', snap, cm, wait, wait, [], next, mtch⟩, [⟨4, id, ms, term, max en b, 0, 0, true, [], ByteArray.empty⟩]) := by
        have hcm2 : cm = max commit (min (min mc (mi + (me.length : Int))) (Tr.lastN b bt es')) := by rw [HCM.out, HEN.out, HLN2.out, Int.min_assoc]
        rw [HQ.out, hcm2, HEN.out]; rfl
      rw [hq2]
      exact ⟨rfl, ⟨col10, ⟨cA, cc, tA, tc, none, 0, nA, nc, mA, mc0, oA10, oc10⟩, [⟨⟨4, id, ms, term, max en b, 0, 0, true, [], ByteArray.empty⟩, none, 0⟩], rfl, rfl, rfl, HN10.out⟩, HB9'.out.trans HB10.out⟩
  · have HZ8 := Lib.hid (((HZ7.out.set 0 (.int .i64 tb)).set 1 (.int .i64 tbt)).set 2 (.slice tA tn tc))
    have HB82 := Lib.hid (bel_set (bel_set (bel_set HB7.out (g := w2.heap.size) (Nat.le_refl _) 0 (.int .i64 tb)) (g := w2.heap.size) (Nat.le_refl _) 1 (.int .i64 tbt)) (g := w2.heap.size) (Nat.le_refl _) 2 (.slice tA tn tc))
    have N8 := Lib.hid (N2.out.bel HB82.out)
    have HM8 := Lib.hid (HM2.out.bel HB82.out)
    have HR8 : Hid (∀ es', o = some es' → tb = b ∧ tbt = bt ∧ tn = es'.length ∧ OwnE (((w7.setCell ⟨w2.heap.size, 0, none⟩ (.int .i64 tb)).setCell ⟨w2.heap.size, 1, none⟩ (.int .i64 tbt)).setCell ⟨w2.heap.size, 2, none⟩ (.slice tA tn tc)) w2.heap.size (.slice tA tn tc) es') := Lib.hid (fun es' h => by
      obtain ⟨h1, h2, h3, h4⟩ := HOK.out.2 es' h
      have h5 : OwnE w7 (w2.heap.size + 1) (.slice tA tn tc) es' := by simpa using h4
      exact ⟨h1, h2, h3, OwnE.low (OwnE.set (OwnE.set (OwnE.set h5 (Nat.lt_succ_self _)) (Nat.lt_succ_self _)) (Nat.lt_succ_self _)) (Nat.le_succ _)⟩)
    generalize hW8 : ((w7.setCell ⟨w2.heap.size, 0, none⟩ (.int .i64 tb)).setCell ⟨w2.heap.size, 1, none⟩ (.int .i64 tbt)).setCell ⟨w2.heap.size, 2, none⟩ (.slice tA tn tc) = W8 at *
    clear hW8
    have HB8 := Lib.hid (HB2.out.trans (bel_base HB82.out N2.out.rest.bs))
    have e8 := N8.out.blk.free
    have t8 := HZ8.out.cells
    have cc8 : ∀ i, W8.cell? ⟨g, i, none⟩ = (#[.int .i64 id, .slice cA conf.length cc, .int .i64 term, .int .i64 vote, .int .i64 0, .int .i64 ms, .int .i64 b, .int .i64 bt, .slice eA es.length ec, .string snap, .int .i64 commit, .int .i64 wait, .int .i64 wait, .slice none 0 0, .slice nA next.length nc, .slice mA mtch.length mc0, .slice oA L.length oc] : Array Value)[i]? := N8.out.blk.cells
    have mm8 : ∀ i, W8.cell? ⟨w.heap.size, i, none⟩ = (#[.int .i64 mk, .int .i64 ms, .int .i64 md, .int .i64 mt, .int .i64 mi, .int .i64 ml, .int .i64 mc, .bool my, .slice A me.length cap, .string mdt] : Array Value)[i]? := HM8.out.cells
    have d8 := N8.out.blk.lt
    have hlnv : Rf.lastN ⟨id, conf, term, vote, 0, ms, b, bt, es, snap, commit, wait, wait, [], next, mtch⟩ = Rf.lastN ⟨id, conf, term, vote, role, leader, b, bt, es, snap, commit, left, wait, votes, next, mtch⟩ := rfl
    have HLC := Lib.hid (fun W (h : Hid (Nd 53 base g col2 ⟨id, conf, term, vote, 0, ms, b, bt, es, snap, commit, wait, wait, [], next, mtch⟩ ⟨cA, cc, eA, ec, none, 0, nA, nc, mA, mc0, oA, oc⟩ L W)) => nlast_calls h hlen)
    rw [hlnv] at HLC
    generalize hlg : Rf.lastN (⟨id, conf, term, vote, role, leader, b, bt, es, snap, commit, left, wait, votes, next, mtch⟩ : Nod) = ln at *
    have HLG := Lib.hid hlg
    clear hlnv hlg
    have hwi : IntKind.i64.wrap (mi - 1) = mi - 1 := IntWalk.i64_in _ (by omega)
    cases ok with
    | false =>
      have hon : o = none := by have := HOK.out.1; cases o with | none => rfl | some _ => cases this
      rw [hon] at HQ
      have SX : Sb W8 W8.drew := Below.drew (Below.refl _ _)
      have hne : Nonempty (InS (Sb W8)) := ⟨⟨_, SX⟩⟩
      have k0 : ∀ (z : InS (Sb W8)) i, z.val.cell? ⟨g, i, none⟩ = (#[.int .i64 id, .slice cA conf.length cc, .int .i64 term, .int .i64 vote, .int .i64 0, .int .i64 ms, .int .i64 b, .int .i64 bt, .slice eA es.length ec, .string snap, .int .i64 commit, .int .i64 wait, .int .i64 wait, .slice none 0 0, .slice nA next.length nc, .slice mA mtch.length mc0, .slice oA L.length oc] : Array Value)[i]? := N8.out.blk.ins
      have k1 : ∀ (z : InS (Sb W8)) i, z.val.cell? ⟨w.heap.size, i, none⟩ = (#[.int .i64 mk, .int .i64 ms, .int .i64 md, .int .i64 mt, .int .i64 mi, .int .i64 ml, .int .i64 mc, .bool my, .slice A me.length cap, .string mdt] : Array Value)[i]? := HM8.out.ins
      clear hon
      go_wp2_with fail
      refine wp_region_tail_in 11 (Sb W8) (by kernel_rfl) (by kernel_rfl) SX ?_
      simp only [List.take_succ_cons, List.take_zero, List.drop_succ_cons, List.drop_zero]
      repeat (go_big_quiet_step (((first | (go_at_call 60; exact calls_in_bel (fun _ _ h k => bel_tr h k) (HLC.out _ (Lib.hid (N8.out.ins _))))))))
      first | refine wpQuiet_nil ?_ | go_big_quiet_step (fail)
      intro W9 hW
      have hs9 := in_ok hW
      have N9 := Lib.hid (N8.out.bel hs9)
      have HB9 := Lib.hid (HB8.out.trans (bel_base hs9 N8.out.rest.bs))
      clear hW hs9 k0 k1 SX hne cc8 mm8
      go_wp2_with fail
      refine (send_calls N9 (by omega) ⟨4, 0, ms, 0, min ln (max (mi - 1) 0), 0, 0, false, [], ByteArray.empty⟩ none 0 (Lib.hid ⟨Nat.le_refl _, RdZ.nil⟩)).mono ?_
      rintro e w10 ⟨rfl, ⟨col10, oA10, oc10, hN10⟩, hb10⟩
      have HN10 := Lib.hid hN10
      have HB10 := Lib.hid hb10
      clear hN10 hb10
      go_wp2_with fail
      go_end0
      rw [HQ.out, ← HLG.out]
      exact ⟨rfl, ⟨col10, ⟨cA, cc, eA, ec, none, 0, nA, nc, mA, mc0, oA10, oc10⟩, [⟨⟨4, id, ms, term, min ln (max (mi - 1) 0), 0, 0, false, [], ByteArray.empty⟩, none, 0⟩], rfl, rfl, by rw [HLG.out]; rfl, HN10.out⟩, HB9.out.trans HB10.out⟩
    | true =>
      obtain ⟨es', hoe⟩ : ∃ es', o = some es' := by have := HOK.out.1; cases o with | none => cases this | some e => exact ⟨e, rfl⟩
      obtain ⟨e1, e2, rfl, hOt⟩ := HR8.out es' hoe
      obtain rfl := e1.symm
      obtain rfl := e2.symm
      obtain ⟨p1, p2, p3⟩ := HPUT.out es' hoe
      rw [hoe] at HQ
      have NA : Hid (Nd 53 base g (recol col2 w2.heap.size 0) ⟨id, conf, term, vote, 0, ms, b, bt, es', snap, commit, wait, wait, [], next, mtch⟩ ⟨cA, cc, tA, tc, none, 0, nA, nc, mA, mc0, oA, oc⟩ L (((W8.setCell ⟨g, 6, none⟩ (.int .i64 b)).setCell ⟨g, 7, none⟩ (.int .i64 bt)).setCell ⟨g, 8, none⟩ (.slice tA es'.length tc))) := Lib.hid (N2.out.log_new HB82.out b bt hOt)
      have HMA := Lib.hid (((HM8.out.far (p := ⟨g, 6, none⟩) HMBG.out (.int .i64 b)).far (p := ⟨g, 7, none⟩) HMBG.out (.int .i64 bt)).far (p := ⟨g, 8, none⟩) HMBG.out (.slice tA es'.length tc))
      have HBA := Lib.hid (((HB8.out.setCell (p := ⟨g, 6, none⟩) N2.out.ge (.int .i64 b)).setCell (p := ⟨g, 7, none⟩) N2.out.ge (.int .i64 bt)).setCell (p := ⟨g, 8, none⟩) N2.out.ge (.slice tA es'.length tc))
      obtain ⟨ln2, hln2⟩ : ∃ ln2, ln2 = Tr.lastN b bt es' := ⟨_, rfl⟩
      have hl3 : 0 ≤ ln2 ∧ ln2 ≤ 1099511627776 := by rw [hln2]; exact ⟨p1, p2⟩
      have HLN2 := Lib.hid hln2
      have HLC2 := Lib.hid (fun W (h : Hid (Nd 53 base g (recol col2 w2.heap.size 0) ⟨id, conf, term, vote, 0, ms, b, bt, es', snap, commit, wait, wait, [], next, mtch⟩ ⟨cA, cc, tA, tc, none, 0, nA, nc, mA, mc0, oA, oc⟩ L W)) => nlast_calls h p3)
      rw [show Rf.lastN (⟨id, conf, term, vote, 0, ms, b, bt, es', snap, commit, wait, wait, [], next, mtch⟩ : Nod) = ln2 from HLN2.out.symm] at HLC2
      obtain ⟨en, hen⟩ : ∃ en : Int, en = mi + me.length := ⟨_, rfl⟩
      have hen2 : 0 ≤ en ∧ en ≤ 1099511627800 := by rw [hen]; omega
      have hwe : IntKind.i64.wrap (mi + (me.length : Int)) = en := by rw [hen]; exact IntWalk.i64_in _ (by omega)
      have hwe2 : mi + (me.length : Int) = en := hen.symm
      have HEN := Lib.hid hen
      obtain ⟨cm, hcm⟩ : ∃ cm, cm = max commit (min mc (min en ln2)) := ⟨_, rfl⟩
      have HCM := Lib.hid hcm
      have hmin3 : ∀ (W : World) (ts : Array TypeId) (t : TypeId) (x y z : Int), (Builtin.min_ ts t #[.int .i64 x, .int .i64 y, .int .i64 z]).run Tryz.prog W = .ok (.int .i64 (min (min x y) z)) W := fun W ts t x y z => by
        have e : (if z < (if y < x then y else x) then z else (if y < x then y else x)) = min (min x y) z := by split <;> split <;> omega
        simp [Builtin.min_, Builtin.min2, e]
      have hx1 : ¬ g = w.heap.size := fun e => HMBG.out e.symm
      have hx2 : ¬ w.heap.size = g := HMBG.out
      clear hoe hOt hln2 hen hcm p1 p2
      go_wp2_with fail
      generalize ((W8.setCell ⟨g, 6, none⟩ (.int .i64 b)).setCell ⟨g, 7, none⟩ (.int .i64 bt)).setCell ⟨g, 8, none⟩ (.slice tA es'.length tc) = WA at *
      clear cc8 mm8 e8 t8 d8
      have SX : Sb WA WA.drew := Below.drew (Below.refl _ _)
      have hne : Nonempty (InS (Sb WA)) := ⟨⟨_, SX⟩⟩
      have k0 : ∀ (z : InS (Sb WA)) i, z.val.cell? ⟨g, i, none⟩ = (#[.int .i64 id, .slice cA conf.length cc, .int .i64 term, .int .i64 vote, .int .i64 0, .int .i64 ms, .int .i64 b, .int .i64 bt, .slice tA es'.length tc, .string snap, .int .i64 commit, .int .i64 wait, .int .i64 wait, .slice none 0 0, .slice nA next.length nc, .slice mA mtch.length mc0, .slice oA L.length oc] : Array Value)[i]? := NA.out.blk.ins
      have k1 : ∀ (z : InS (Sb WA)) i, z.val.cell? ⟨w.heap.size, i, none⟩ = (#[.int .i64 mk, .int .i64 ms, .int .i64 md, .int .i64 mt, .int .i64 mi, .int .i64 ml, .int .i64 mc, .bool my, .slice A me.length cap, .string mdt] : Array Value)[i]? := HMA.out.ins
      refine wp_region_tail_in 16 (Sb WA) (by kernel_rfl) (by kernel_rfl) SX ?_
      simp only [List.take_succ_cons, List.take_zero, List.drop_succ_cons, List.drop_zero]
      repeat (go_big_quiet_step (((first | (go_at_call 60; exact calls_in_bel (fun _ _ h k => bel_tr h k) (HLC2.out _ (Lib.hid (NA.out.ins _))))))))
      first | refine wpQuiet_nil ?_ | go_big_quiet_step (fail)
      intro W9 hW
      have hs9 := in_ok hW
      have N9 := Lib.hid (NA.out.bel hs9)
      have HM9 := Lib.hid (HMA.out.bel hs9)
      have HB9 := Lib.hid (HBA.out.trans (bel_base hs9 NA.out.rest.bs))
      have c9 : ∀ i, W9.cell? ⟨g, i, none⟩ = (#[.int .i64 id, .slice cA conf.length cc, .int .i64 term, .int .i64 vote, .int .i64 0, .int .i64 ms, .int .i64 b, .int .i64 bt, .slice tA es'.length tc, .string snap, .int .i64 commit, .int .i64 wait, .int .i64 wait, .slice none 0 0, .slice nA next.length nc, .slice mA mtch.length mc0, .slice oA L.length oc] : Array Value)[i]? := N9.out.blk.cells
      have f9 := N9.out.blk.free
      have d9 := N9.out.blk.lt
      clear hW hs9 k0 k1 SX hne
      go_wp2_with fail
      rw [show max commit (min mc (min en ln2)) = cm from HCM.out.symm]
      have NB := Lib.hid ((N9.out.run.set 10 (.int .i64 cm)).nd ⟨id, conf, term, vote, 0, ms, b, bt, es', snap, cm, wait, wait, [], next, mtch⟩ (by simp only [nodeC, List.setIfInBounds_toArray, List.set_cons_succ, List.set_cons_zero]) rfl rfl rfl rfl rfl)
      have HMB := Lib.hid (HM9.out.far (p := ⟨g, 10, none⟩) HMBG.out (.int .i64 cm))
      have HBB := Lib.hid (HB9.out.setCell (p := ⟨g, 10, none⟩) N2.out.ge (.int .i64 cm))
      generalize W9.setCell ⟨g, 10, none⟩ (.int .i64 cm) = WB at *
      have SX : Sb WB WB.drew := Below.drew (Below.refl _ _)
      have hne : Nonempty (InS (Sb WB)) := ⟨⟨_, SX⟩⟩
      have k0 : ∀ (z : InS (Sb WB)) i, z.val.cell? ⟨g, i, none⟩ = (#[.int .i64 id, .slice cA conf.length cc, .int .i64 term, .int .i64 vote, .int .i64 0, .int .i64 ms, .int .i64 b, .int .i64 bt, .slice tA es'.length tc, .string snap, .int .i64 cm, .int .i64 wait, .int .i64 wait, .slice none 0 0, .slice nA next.length nc, .slice mA mtch.length mc0, .slice oA L.length oc] : Array Value)[i]? := NB.out.blk.ins
      have k1 : ∀ (z : InS (Sb WB)) i, z.val.cell? ⟨w.heap.size, i, none⟩ = (#[.int .i64 mk, .int .i64 ms, .int .i64 md, .int .i64 mt, .int .i64 mi, .int .i64 ml, .int .i64 mc, .bool my, .slice A me.length cap, .string mdt] : Array Value)[i]? := HMB.out.ins
      clear c9 f9 d9
      refine wp_region_tail_in 12 (Sb WB) (by kernel_rfl) (by kernel_rfl) SX ?_
      simp only [List.take_succ_cons, List.take_zero, List.drop_succ_cons, List.drop_zero]
      repeat (go_big_quiet_step (fail))
      first | refine wpQuiet_nil ?_ | go_big_quiet_step (fail)
      intro W11 hW
      have hs9 := in_ok hW
      have N9' := Lib.hid (NB.out.bel hs9)
      have HB9' := Lib.hid (HBB.out.trans (bel_base hs9 NB.out.rest.bs))
      clear hW hs9 k0 k1 SX hne
      go_wp2_with fail
      refine (send_calls N9' (by omega) ⟨4, 0, ms, 0, max en b, 0, 0, true, [], ByteArray.empty⟩ none 0 (Lib.hid ⟨Nat.le_refl _, RdZ.nil⟩)).mono ?_
      rintro e w10 ⟨rfl, ⟨col10, oA10, oc10, hN10⟩, hb10⟩
      have HN10 := Lib.hid hN10
      have HB10 := Lib.hid hb10
      clear hN10 hb10
      go_wp2_with fail
      go_end0
      have hq2 : q = (⟨id, conf, term, vote, 0, ms, b, bt, es', snap, cm, wait, wait, [], next, mtch⟩, [⟨4, id, ms, term, max en b, 0, 0, true, [], ByteArray.empty⟩]) := by
        have hcm2 : cm = max commit (min (min mc (mi + (me.length : Int))) (Tr.lastN b bt es')) := by rw [HCM.out, HEN.out, HLN2.out, Int.min_assoc]
        rw [HQ.out, hcm2, HEN.out]; rfl
      rw [hq2]
      exact ⟨rfl, ⟨col10, ⟨cA, cc, tA, tc, none, 0, nA, nc, mA, mc0, oA10, oc10⟩, [⟨⟨4, id, ms, term, max en b, 0, 0, true, [], ByteArray.empty⟩, none, 0⟩], rfl, rfl, rfl, HN10.out⟩, HB9'.out.trans HB10.out⟩
end Go.Proofs.YtdladjgdhnkkcaaGreat
