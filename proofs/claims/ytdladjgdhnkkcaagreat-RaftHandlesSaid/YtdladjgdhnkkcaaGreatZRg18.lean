
/-
  Contract of the reference of layer 14: entries come.
  Conditions: the node lies in memory and is right, it takes the message, it leads no one.
-/
import Derived.Test.YtdladjgdhnkkcaaGreatZRf14
import Derived.Test.YtdladjgdhnkkcaaGreatZTrR4
import Derived.Test.YtdladjgdhnkkcaaGreatZRg1
import Derived.Deep.Cut
import Derived.Deep.DeepCutAuto
namespace Go.Proofs.YtdladjgdhnkkcaaGreat
open Go.RowKit
set_option linter.unusedVariables false
set_option linter.unusedSimpArgs false
set_option maxHeartbeats 20000000

theorem ResO.one {base : Nat} {b bt : Int} {o : Option (List En)} {A0 : Option Addr} {c0 : Nat} {es0 : List En} {v : Value} {w : World} (h : ResO base b bt o A0 c0 es0 v w) :
    ∃ tb tbt tA tn tc ok, v = .tuple #[trV tb tbt tA tn tc, .bool ok] ∧ Hid (ok = o.isSome ∧ ∀ es', o = some es' → tb = b ∧ tbt = bt ∧ tn = es'.length ∧ (OwnE w base (.slice tA tn tc) es' ∨ (tA = A0 ∧ tc = c0 ∧ es' = es0))) := by
  cases o with
  | none => exact ⟨0, 0, none, 0, 0, false, h, Lib.hid ⟨rfl, fun es' e => by cases e⟩⟩
  | some out =>
    obtain ⟨A, cap, e, hh⟩ := h
    exact ⟨b, bt, A, out.length, cap, true, e, Lib.hid ⟨rfl, fun es' e' => by cases e'; exact ⟨rfl, rfl, rfl, hh⟩⟩⟩

set_option maxRecDepth 20000 in
theorem pushed_calls {base g : Nat} {col : Nat → Nat} {r : Nod} {x : NdX} {L : List MsgV} {w : World} (H : Hid (Nd 36 base g col r x L w)) (hL : L.length ≤ 800) (hB : Hid (Rf.Base r)) (hnx : r.next = []) (hmx : r.mtch = []) (m : Msg) (hT : Hid (Rf.Takes r m)) (A : Option Addr) (cap : Nat) (hm : Hid (m.es.length ≤ cap ∧ RdB base w A m.es)) :
    Calls Tryz.prog 30 #[.pointer (some ⟨g, 0, none⟩), msgV m A cap] w (Led 36 base g (Rf.take r m).1 x L (Rf.take r m).2 w) := by
  obtain ⟨q, hq⟩ : ∃ q, q = Rf.take r m := ⟨_, rfl⟩
  rw [← hq]
  have HQ := Lib.hid hq
  unfold Rf.take at HQ
  obtain ⟨o, ho⟩ : ∃ o, o = Rf.put (Rf.follow r m) m := ⟨_, rfl⟩
  rw [← ho] at HQ
  have HO := Lib.hid ho
  have hrim := Tr.chk_rim hB.out.trail
  have hln : Rf.lastN r = r.b + r.es.length := by unfold Rf.lastN; exact Rf.lastN_eq hB.out.trail
  have hl01 : 0 ≤ Rf.lastN r ∧ Rf.lastN r ≤ 1099511627776 := by rw [hln]; omega
  have hc01 : 0 ≤ r.commit ∧ r.commit ≤ 1099511627776 := by have := hB.out.com0; have := hB.out.com1; omega
  have hi0 := hT.out.i0
  have hi1 := hT.out.i1
  have hmc0 := hT.out.c0
  have hmc1 := hT.out.c1
  have hes := hT.out.es
  have hlen : r.es.length ≤ 4096 := hrim.2.2.2.2.2.1
  have hb01 : 0 ≤ r.b ∧ r.b ≤ 1099511627776 := ⟨hrim.1, hrim.2.1⟩
  have hput : ∀ es', o = some es' → 0 ≤ Tr.lastN r.b r.bt es' ∧ Tr.lastN r.b r.bt es' ≤ 1099511627776 ∧ es'.length ≤ 4096 := fun es' he => by
    have hp := Tr.put_chk (show Tr.put r.b r.bt r.es m.index m.lterm m.es r.commit = some es' from ho.symm.trans he)
    have h2 := Tr.chk_rim hp
    rw [Rf.lastN_eq hp]
    exact ⟨by omega, by omega, h2.2.2.2.2.2.1⟩
  have HPUT := Lib.hid hput
  clear hq ho hrim hln hput
  obtain ⟨id, conf, term, vote, role, leader, b, bt, es, snap, commit, left, wait, votes, next, mtch⟩ := r
  obtain ⟨mk, ms, md, mt, mi, ml, mc, my, me, mdt⟩ := m
  obtain ⟨cA, cc, eA, ec, vA, vc, nA, nc, mA, mc0, oA, oc⟩ := x
  simp only at hc01 hi0 hi1 hmc0 hmc1 hes hlen hb01 hnx hmx
  subst hnx; subst hmx
  obtain ⟨ln, hlg⟩ : ∃ ln, ln = Tr.lastN b bt es := ⟨_, rfl⟩
  have hl02 : 0 ≤ ln ∧ ln ≤ 1099511627776 := by rw [hlg]; exact hl01
  have HLG := Lib.hid hlg
  clear hlg hl01
  have HB1 := Lib.hid (bel_new (Below.refl w.heap.size w) (.cells #[.int .i64 mk, .int .i64 ms, .int .i64 md, .int .i64 mt, .int .i64 mi, .int .i64 ml, .int .i64 mc, .bool my, .slice A me.length cap, .string mdt] 30))
  have N1 := Lib.hid (H.out.bel HB1.out)
  have HM1 := Lib.hid (Blk.new w 30 #[.int .i64 mk, .int .i64 ms, .int .i64 md, .int .i64 mt, .int .i64 mi, .int .i64 ml, .int .i64 mc, .bool my, .slice A me.length cap, .string mdt])
  have HE1 := Lib.hid (hm.out.2.low (bel_base HB1.out H.out.rest.bs))
  have HFO := Lib.hid (heard_calls N1 ⟨mk, ms, md, mt, mi, ml, mc, my, me, mdt⟩ A cap)
  have hmbg : w.heap.size ≠ g := by have := H.out.blk.lt; omega
  have HMBG := Lib.hid hmbg
  clear hmbg
  go_enter Tryz.func30, Tryz.ntmps30
  go_wp2_with fail
  refine HFO.out.mono ?_
  rintro e w2 ⟨rfl, ⟨col2, hN2⟩, hb2, hal⟩
  have N2 : Hid (Nd 36 base g col2 ⟨id, conf, term, vote, 0, ms, b, bt, es, snap, commit, wait, wait, [], [], []⟩ ⟨cA, cc, eA, ec, none, 0, none, 0, none, 0, oA, oc⟩ L w2) := Lib.hid hN2
  have HB2 := Lib.hid ((bel_base HB1.out H.out.rest.bs).trans hb2)
  have HE2 := Lib.hid (HE1.out.low hb2)
  have HM2 := Lib.hid (HM1.out.same (hal w.heap.size HM1.out.lt HMBG.out))
  clear hN2 hb2 HFO hal N1 HM1 HB1 HE1
  have HPC : Hid (∀ W, RdE W eA es → RdE W A me → Calls Tryz.prog 73 #[trV b bt eA es.length ec, .int .i64 mi, .int .i64 ml, .slice A me.length cap, .int .i64 commit] W fun e w' => (∃ v, e = .returned v ∧ ResO W.heap.size b bt o eA ec es v w') ∧ Below W.heap.size W w') := Lib.hid (fun W hR hM => by
    rw [show o = Tr.put b bt es mi ml me commit from HO.out]
    exact rput_own b bt mi ml commit eA ec es A cap me W hR hM (by omega) N2.out.rest.es.le (by omega) hm.out.1 (by omega))
  have HLC : Hid (∀ W, RdE W eA es → Calls Tryz.prog 51 #[trV b bt eA es.length ec] W fun e w' => e = .returned (.tuple #[.int .i64 ln, .int .i64 (Tr.lastT b bt es)]) ∧ Below W.heap.size W w') := Lib.hid (fun W hR => by rw [HLG.out]; exact rlast2_calls b bt eA ec es W hR (by omega))
  have HNE : Hid (g ≠ w2.heap.size) := Lib.hid (by have := N2.out.blk.lt; omega)
  have HNE2 : Hid (w.heap.size ≠ w2.heap.size) := Lib.hid (by have := HM2.out.lt; omega)
  have KA := Lib.hid (N2.out.bel (bel_drew (bel_new (Below.refl w2.heap.size w2) (.cells #[.int .i64 0, .int .i64 0, .slice none 0 0] 25))))
  have KM := Lib.hid (HM2.out.bel (bel_drew (bel_new (Below.refl w2.heap.size w2) (.cells #[.int .i64 0, .int .i64 0, .slice none 0 0] 25))))
  have KK2 := Lib.hid (show w2.drew.cell? ⟨g, 6, none⟩ = some (.int .i64 b) ∧ w2.drew.cell? ⟨g, 7, none⟩ = some (.int .i64 bt) ∧ w2.drew.cell? ⟨g, 8, none⟩ = some (.slice eA es.length ec) ∧ w2.drew.cell? ⟨g, 10, none⟩ = some (.int .i64 commit) ∧ w2.drew.cell? ⟨w.heap.size, 4, none⟩ = some (.int .i64 mi) ∧ w2.drew.cell? ⟨w.heap.size, 5, none⟩ = some (.int .i64 ml) ∧ w2.drew.cell? ⟨w.heap.size, 8, none⟩ = some (.slice A me.length cap) from ⟨(N2.out.blk).cells 6, (N2.out.blk).cells 7, (N2.out.blk).cells 8, (N2.out.blk).cells 10, (HM2.out).cells 4, (HM2.out).cells 5, (HM2.out).cells 8⟩)
  have KKA := Lib.hid (show ((w2.alloc (.cells #[.int .i64 0, .int .i64 0, .slice none 0 0] 25)).drew).cell? ⟨g, 6, none⟩ = some (.int .i64 b) ∧ ((w2.alloc (.cells #[.int .i64 0, .int .i64 0, .slice none 0 0] 25)).drew).cell? ⟨g, 7, none⟩ = some (.int .i64 bt) ∧ ((w2.alloc (.cells #[.int .i64 0, .int .i64 0, .slice none 0 0] 25)).drew).cell? ⟨g, 8, none⟩ = some (.slice eA es.length ec) ∧ ((w2.alloc (.cells #[.int .i64 0, .int .i64 0, .slice none 0 0] 25)).drew).cell? ⟨g, 10, none⟩ = some (.int .i64 commit) ∧ ((w2.alloc (.cells #[.int .i64 0, .int .i64 0, .slice none 0 0] 25)).drew).cell? ⟨w.heap.size, 4, none⟩ = some (.int .i64 mi) ∧ ((w2.alloc (.cells #[.int .i64 0, .int .i64 0, .slice none 0 0] 25)).drew).cell? ⟨w.heap.size, 5, none⟩ = some (.int .i64 ml) ∧ ((w2.alloc (.cells #[.int .i64 0, .int .i64 0, .slice none 0 0] 25)).drew).cell? ⟨w.heap.size, 8, none⟩ = some (.slice A me.length cap) from ⟨(KA.out.blk).cells 6, (KA.out.blk).cells 7, (KA.out.blk).cells 8, (KA.out.blk).cells 10, (KM.out).cells 4, (KM.out).cells 5, (KM.out).cells 8⟩)
  go_upto_region 2 with (fail)
  go_region_held3 (fun W => W.cell? ⟨g, 6, none⟩ = some (.int .i64 b) ∧ W.cell? ⟨g, 7, none⟩ = some (.int .i64 bt) ∧ W.cell? ⟨g, 8, none⟩ = some (.slice eA es.length ec) ∧ W.cell? ⟨g, 10, none⟩ = some (.int .i64 commit) ∧ W.cell? ⟨w.heap.size, 4, none⟩ = some (.int .i64 mi) ∧ W.cell? ⟨w.heap.size, 5, none⟩ = some (.int .i64 ml) ∧ W.cell? ⟨w.heap.size, 8, none⟩ = some (.slice A me.length cap))
    (first | exact KK2.out | exact KK7.out | exact KKA.out | exact ⟨((N7.out.bel (bel_new (Below.refl _ _) _)).blk).cells 6, ((N7.out.bel (bel_new (Below.refl _ _) _)).blk).cells 7, ((N7.out.bel (bel_new (Below.refl _ _) _)).blk).cells 8, ((N7.out.bel (bel_new (Below.refl _ _) _)).blk).cells 10, (HM7.out.bel (bel_new (Below.refl _ _) _)).cells 4, (HM7.out.bel (bel_new (Below.refl _ _) _)).cells 5, (HM7.out.bel (bel_new (Below.refl _ _) _)).cells 8⟩ | exact ⟨(((N7.out.blk.far HNE.out _).far HNE.out _).far HNE.out _).cells 6, (((N7.out.blk.far HNE.out _).far HNE.out _).far HNE.out _).cells 7, (((N7.out.blk.far HNE.out _).far HNE.out _).far HNE.out _).cells 8, (((N7.out.blk.far HNE.out _).far HNE.out _).far HNE.out _).cells 10, (((HM7.out.far HNE2.out _).far HNE2.out _).far HNE2.out _).cells 4, (((HM7.out.far HNE2.out _).far HNE2.out _).far HNE2.out _).cells 5, (((HM7.out.far HNE2.out _).far HNE2.out _).far HNE2.out _).cells 8⟩)
    (first
      | (go_at_call 73
         refine (HPC.out w2.drew N2.out.rest.es.rd HE2.out.1).mono ?_
         rintro e w7 ⟨⟨v, rfl, hv⟩, hb7⟩
         obtain ⟨tb, tbt, tA, tn, tc, ok, rfl, HOK⟩ := hv.one
         have N7 := Lib.hid ((N2.out.bel (bel_drew (Below.refl _ _))).bel hb7)
         have HM7 := Lib.hid ((HM2.out.bel (bel_drew (Below.refl _ _))).bel hb7)
         have KK7 := Lib.hid (show w7.cell? ⟨g, 6, none⟩ = some (.int .i64 b) ∧ w7.cell? ⟨g, 7, none⟩ = some (.int .i64 bt) ∧ w7.cell? ⟨g, 8, none⟩ = some (.slice eA es.length ec) ∧ w7.cell? ⟨g, 10, none⟩ = some (.int .i64 commit) ∧ w7.cell? ⟨w.heap.size, 4, none⟩ = some (.int .i64 mi) ∧ w7.cell? ⟨w.heap.size, 5, none⟩ = some (.int .i64 ml) ∧ w7.cell? ⟨w.heap.size, 8, none⟩ = some (.slice A me.length cap) from ⟨(N7.out.blk).cells 6, (N7.out.blk).cells 7, (N7.out.blk).cells 8, (N7.out.blk).cells 10, (HM7.out).cells 4, (HM7.out).cells 5, (HM7.out).cells 8⟩)
         have HB7 := Lib.hid (bel_tr (bel_drew (Below.refl w2.heap.size w2)) hb7)
         have HSZ7 : Hid (w2.heap.size ≤ w7.heap.size) := Lib.hid hb7.size
         clear hv hb7)
      | (go_at_call 73
         refine (HPC.out ((w2.alloc (.cells #[.int .i64 0, .int .i64 0, .slice none 0 0] 25)).drew) KA.out.rest.es.rd (HE2.out.1.bel (bel_drew (bel_new (Below.refl _ _) _)))).mono ?_
         rintro e w7 ⟨⟨v, rfl, hv⟩, hb7⟩
         obtain ⟨tb, tbt, tA, tn, tc, ok, rfl, HOK⟩ := hv.one
         have N7 := Lib.hid (KA.out.bel hb7)
         have HM7 := Lib.hid (KM.out.bel hb7)
         have HB7 := Lib.hid (bel_tr (bel_drew (bel_new (Below.refl w2.heap.size w2) (.cells #[.int .i64 0, .int .i64 0, .slice none 0 0] 25))) hb7)
         have KK7 := Lib.hid (show w7.cell? ⟨g, 6, none⟩ = some (.int .i64 b) ∧ w7.cell? ⟨g, 7, none⟩ = some (.int .i64 bt) ∧ w7.cell? ⟨g, 8, none⟩ = some (.slice eA es.length ec) ∧ w7.cell? ⟨g, 10, none⟩ = some (.int .i64 commit) ∧ w7.cell? ⟨w.heap.size, 4, none⟩ = some (.int .i64 mi) ∧ w7.cell? ⟨w.heap.size, 5, none⟩ = some (.int .i64 ml) ∧ w7.cell? ⟨w.heap.size, 8, none⟩ = some (.slice A me.length cap) from ⟨(N7.out.blk).cells 6, (N7.out.blk).cells 7, (N7.out.blk).cells 8, (N7.out.blk).cells 10, (HM7.out).cells 4, (HM7.out).cells 5, (HM7.out).cells 8⟩)
         have HZ7 := Lib.hid (((Blk.new w2 25 #[.int .i64 0, .int .i64 0, .slice none 0 0]).drewN 1).bel hb7)
         have HSZ7 : Hid (w2.heap.size ≤ w7.heap.size) := Lib.hid (by have := hb7.size; simp at this; omega)
         have z7 := HZ7.out.free
         have y7 := HZ7.out.cells
         clear hv hb7))
  · have HB82 := Lib.hid (bel_new HB7.out (.cells #[.int .i64 tb, .int .i64 tbt, .slice tA tn tc] 25))
    have HT8 := Lib.hid (Blk.new w7 25 #[.int .i64 tb, .int .i64 tbt, .slice tA tn tc])
    have HR8 : Hid (∀ es', o = some es' → tb = b ∧ tbt = bt ∧ tn = es'.length ∧ (OwnE (w7.alloc (.cells #[.int .i64 tb, .int .i64 tbt, .slice tA tn tc] 25)) w2.heap.size (.slice tA tn tc) es' ∨ (tA = eA ∧ tc = ec ∧ es' = es))) := Lib.hid (fun es' h => by
      obtain ⟨h1, h2, h3, h4⟩ := HOK.out.2 es' h
      refine ⟨h1, h2, h3, ?_⟩
      rcases h4 with h4 | h4
      · exact .inl (OwnE.kept h4 (bel_new (Below.refl _ _) _))
      · exact .inr h4)
    generalize (w7.alloc (.cells #[.int .i64 tb, .int .i64 tbt, .slice tA tn tc] 25)) = w8 at *
    obtain ⟨gt, hgt⟩ : ∃ gt, gt = w7.heap.size := ⟨_, rfl⟩
    have HGE := Lib.hid (show w2.heap.size ≤ gt by rw [hgt]; exact HSZ7.out)
    rw [← hgt] at HT8 ⊢
    clear hgt
    have N8 := Lib.hid (N2.out.bel HB82.out)
    have HM8 := Lib.hid (HM2.out.bel HB82.out)
    have HB8 := Lib.hid (HB2.out.trans (bel_base HB82.out N2.out.rest.bs))
    have HGT : Hid (g ≠ gt ∧ w.heap.size ≠ gt) := Lib.hid (by have := HGE.out; have := N2.out.blk.lt; have := HM2.out.lt; omega)
    have hcc8 : ∀ i, w8.cell? ⟨g, i, none⟩ = (#[.int .i64 id, .slice cA conf.length cc, .int .i64 term, .int .i64 vote, .int .i64 0, .int .i64 ms, .int .i64 b, .int .i64 bt, .slice eA es.length ec, .string snap, .int .i64 commit, .int .i64 wait, .int .i64 wait, .slice none 0 0, .slice none 0 0, .slice none 0 0, .slice oA L.length oc] : Array Value)[i]? := N8.out.blk.cells
    have hmm8 : ∀ i, w8.cell? ⟨w.heap.size, i, none⟩ = (#[.int .i64 mk, .int .i64 ms, .int .i64 md, .int .i64 mt, .int .i64 mi, .int .i64 ml, .int .i64 mc, .bool my, .slice A me.length cap, .string mdt] : Array Value)[i]? := HM8.out.cells
    have hgl8 := N8.out.blk.lt
    go_wp2_with fail
    refine (HLC.out w8 N8.out.rest.es.rd).mono ?_
    rintro e w9 ⟨rfl, hb9⟩
    have N9 := Lib.hid (N8.out.bel hb9)
    have HM9 := Lib.hid (HM8.out.bel hb9)
    have HT9 := Lib.hid (HT8.out.bel hb9)
    have HB92 := Lib.hid (bel_tr HB82.out hb9)
    have HB9 := Lib.hid (HB8.out.trans (bel_base hb9 N8.out.rest.bs))
    have HR9 : Hid (∀ es', o = some es' → tb = b ∧ tbt = bt ∧ tn = es'.length ∧ (OwnE w9 w2.heap.size (.slice tA tn tc) es' ∨ (tA = eA ∧ tc = ec ∧ es' = es))) := Lib.hid (fun es' h => by
      obtain ⟨h1, h2, h3, h4⟩ := HR8.out es' h
      refine ⟨h1, h2, h3, ?_⟩
      rcases h4 with h4 | h4
      · exact .inl (OwnE.kept h4 hb9)
      · exact .inr h4)
    clear hb9 hcc8 hmm8 hgl8 N8 HM8 HT8 HB82 HB8 HR8
    have hcc9 : ∀ i, w9.cell? ⟨g, i, none⟩ = (#[.int .i64 id, .slice cA conf.length cc, .int .i64 term, .int .i64 vote, .int .i64 0, .int .i64 ms, .int .i64 b, .int .i64 bt, .slice eA es.length ec, .string snap, .int .i64 commit, .int .i64 wait, .int .i64 wait, .slice none 0 0, .slice none 0 0, .slice none 0 0, .slice oA L.length oc] : Array Value)[i]? := N9.out.blk.cells
    have hmm9 : ∀ i, w9.cell? ⟨w.heap.size, i, none⟩ = (#[.int .i64 mk, .int .i64 ms, .int .i64 md, .int .i64 mt, .int .i64 mi, .int .i64 ml, .int .i64 mc, .bool my, .slice A me.length cap, .string mdt] : Array Value)[i]? := HM9.out.cells
    have htt9 : ∀ i, w9.cell? ⟨gt, i, none⟩ = (#[.int .i64 tb, .int .i64 tbt, .slice tA tn tc] : Array Value)[i]? := HT9.out.cells
    have hgl9 := N9.out.blk.lt
    have hgf9 := N9.out.blk.free
    have hwi : IntKind.i64.wrap (mi - 1) = mi - 1 := IntWalk.i64_in _ (by omega)
    cases ok with
    | false =>
      have hon : o = none := by have := HOK.out.1; cases o with | none => rfl | some _ => cases this
      rw [hon] at HQ
      clear hon
      obtain ⟨h1, hh1⟩ : ∃ h1 : Int, h1 = max (mi - 1) 0 := ⟨_, rfl⟩
      obtain ⟨h2, hh2⟩ : ∃ h2 : Int, h2 = min ln h1 := ⟨_, rfl⟩
      have HH1 := Lib.hid hh1
      have HH2 := Lib.hid hh2
      clear hh1 hh2
      have HF := Lib.hid (show q = (⟨id, conf, term, vote, 0, ms, b, bt, es, snap, commit, wait, wait, [], [], []⟩, [⟨4, id, ms, term, h2, 0, 0, false, [], ByteArray.empty⟩]) from by
        rw [HQ.out, HH2.out, HH1.out, HLG.out]; rfl)
      go_upto_if 49 with (fail)
      go_cut [8] (fun s W => s = .int .i64 h1 ∧ W = w9)
      case first =>
        by_cases k1 : mi - 1 < 0
        · have he3 : (0 : Int) = h1 := by rw [HH1.out]; omega
          have HE3 := Lib.hid he3
          clear he3
          go_wp2_with fail
          go_meet
          exact ⟨by rw [← HE3.out], rfl⟩
        · have he3 : mi - 1 = h1 := by rw [HH1.out]; omega
          have HE3 := Lib.hid he3
          clear he3
          go_wp2_with fail
          go_meet
          exact ⟨by rw [← HE3.out], rfl⟩
      case rest =>
        obtain ⟨rfl, rfl⟩ := hcut
        go_upto_if 52 with (fail)
        go_cut [8] (fun s W => s = .int .i64 h2 ∧ W = wc)
        case first =>
          by_cases k1 : ln < h1
          · have he3 : ln = h2 := by rw [HH2.out]; omega
            have HE3 := Lib.hid he3
            clear he3
            go_wp2_with fail
            go_meet
            exact ⟨by rw [← HE3.out], rfl⟩
          · have he3 : h1 = h2 := by rw [HH2.out]; omega
            have HE3 := Lib.hid he3
            clear he3
            go_wp2_with fail
            go_meet
            exact ⟨by rw [← HE3.out], rfl⟩
        case rest =>
          obtain ⟨rfl, rfl⟩ := hcut
          go_wp2_with fail
          refine (say_calls N9 (by omega) ⟨4, 0, ms, 0, h2, 0, 0, false, [], ByteArray.empty⟩ none 0 (Lib.hid ⟨Nat.le_refl _, RdZ.nil⟩)).mono ?_
          rintro e w10 ⟨rfl, ⟨col10, oA10, oc10, hN10⟩, hb10⟩
          have HN10 := Lib.hid hN10
          have HB10 := Lib.hid hb10
          clear hN10 hb10
          go_wp2_with fail
          go_end0
          rw [HF.out]
          exact ⟨rfl, ⟨col10, ⟨cA, cc, eA, ec, none, 0, none, 0, none, 0, oA10, oc10⟩, [⟨⟨4, id, ms, term, h2, 0, 0, false, [], ByteArray.empty⟩, none, 0⟩], rfl, rfl, rfl, HN10.out⟩, HB9.out.trans HB10.out⟩
    | true =>
      obtain ⟨es', hoe⟩ : ∃ es', o = some es' := by have := HOK.out.1; cases o with | none => cases this | some e => exact ⟨e, rfl⟩
      obtain ⟨e1, e2, e3, hOt⟩ := HR9.out es' hoe
      obtain ⟨p1, p2, p3⟩ := HPUT.out es' hoe
      rw [hoe] at HQ
      clear HR9 HPUT hoe
      obtain rfl := e1.symm
      obtain rfl := e2.symm
      subst e3
      have hNA : ∃ colA, Nd 36 base g colA ⟨id, conf, term, vote, 0, ms, b, bt, es', snap, commit, wait, wait, [], [], []⟩ ⟨cA, cc, tA, tc, none, 0, none, 0, none, 0, oA, oc⟩ L (((w9.setCell ⟨g, 6, none⟩ (.int .i64 b)).setCell ⟨g, 7, none⟩ (.int .i64 bt)).setCell ⟨g, 8, none⟩ (.slice tA es'.length tc)) := by
        rcases hOt with hOt | ⟨e1, e2, e3⟩
        · exact ⟨_, N2.out.log_new HB92.out b bt hOt⟩
        · subst e1; subst e2; subst e3
          exact ⟨_, (((N9.out.run.set 6 (.int .i64 b)).set 7 (.int .i64 bt)).set 8 (.slice tA es'.length tc)).nd _ (by simp only [nodeC, List.setIfInBounds_toArray, List.set_cons_succ, List.set_cons_zero, List.length_nil]) rfl rfl rfl rfl rfl⟩
      obtain ⟨colA, hNA⟩ := hNA
      have NA := Lib.hid hNA
      have HMA := Lib.hid (((HM9.out.far (p := ⟨g, 6, none⟩) HMBG.out (.int .i64 b)).far (p := ⟨g, 7, none⟩) HMBG.out (.int .i64 bt)).far (p := ⟨g, 8, none⟩) HMBG.out (.slice tA es'.length tc))
      have HTA := Lib.hid (((HT9.out.far (p := ⟨g, 6, none⟩) HGT.out.1.symm (.int .i64 b)).far (p := ⟨g, 7, none⟩) HGT.out.1.symm (.int .i64 bt)).far (p := ⟨g, 8, none⟩) HGT.out.1.symm (.slice tA es'.length tc))
      have HBA := Lib.hid (((HB9.out.setCell (p := ⟨g, 6, none⟩) N2.out.ge (.int .i64 b)).setCell (p := ⟨g, 7, none⟩) N2.out.ge (.int .i64 bt)).setCell (p := ⟨g, 8, none⟩) N2.out.ge (.slice tA es'.length tc))
      clear hNA hOt
      go_upto_region 12 with (fail)
      generalize ((w9.setCell ⟨g, 6, none⟩ (.int .i64 b)).setCell ⟨g, 7, none⟩ (.int .i64 bt)).setCell ⟨g, 8, none⟩ (.slice tA es'.length tc) = WA at *
      clear hcc9 hmm9 htt9 hgl9 hgf9
      obtain ⟨ln2, hln2⟩ : ∃ ln2, ln2 = Tr.lastN b bt es' := ⟨_, rfl⟩
      have hl3 : 0 ≤ ln2 ∧ ln2 ≤ 1099511627776 := by rw [hln2]; exact ⟨p1, p2⟩
      have HLN2 := Lib.hid hln2
      have HLC2 := Lib.hid (rlast2_calls b bt tA tc es' WA NA.out.rest.es.rd (by omega))
      rw [← HLN2.out] at HLC2
      obtain ⟨en, hen⟩ : ∃ en : Int, en = mi + me.length := ⟨_, rfl⟩
      have hen2 : 0 ≤ en ∧ en ≤ 1099511627800 := by rw [hen]; omega
      have hwe : IntKind.i64.wrap (mi + (me.length : Int)) = en := by rw [hen]; exact IntWalk.i64_in _ (by omega)
      have HEN := Lib.hid hen
      have httA : ∀ i, WA.cell? ⟨gt, i, none⟩ = (#[.int .i64 b, .int .i64 bt, .slice tA es'.length tc] : Array Value)[i]? := HTA.out.cells
      clear hln2 hen p1 p2
      go_wp2_with fail
      refine HLC2.out.mono ?_
      rintro e WC ⟨rfl, hbC⟩
      have NC := Lib.hid (NA.out.bel hbC)
      have HMC := Lib.hid (HMA.out.bel hbC)
      have HTC := Lib.hid (HTA.out.bel hbC)
      have HBC := Lib.hid (HBA.out.trans (bel_base hbC NA.out.rest.bs))
      clear hbC httA NA HMA HTA HBA HLC2
      have hccC : ∀ i, WC.cell? ⟨g, i, none⟩ = (#[.int .i64 id, .slice cA conf.length cc, .int .i64 term, .int .i64 vote, .int .i64 0, .int .i64 ms, .int .i64 b, .int .i64 bt, .slice tA es'.length tc, .string snap, .int .i64 commit, .int .i64 wait, .int .i64 wait, .slice none 0 0, .slice none 0 0, .slice none 0 0, .slice oA L.length oc] : Array Value)[i]? := NC.out.blk.cells
      have hmmC : ∀ i, WC.cell? ⟨w.heap.size, i, none⟩ = (#[.int .i64 mk, .int .i64 ms, .int .i64 md, .int .i64 mt, .int .i64 mi, .int .i64 ml, .int .i64 mc, .bool my, .slice A me.length cap, .string mdt] : Array Value)[i]? := HMC.out.cells
      have hglC := NC.out.blk.lt
      have hgfC := NC.out.blk.free
      obtain ⟨c1, hc1⟩ : ∃ c1 : Int, c1 = min mc en := ⟨_, rfl⟩
      obtain ⟨c2, hc2⟩ : ∃ c2 : Int, c2 = min c1 ln2 := ⟨_, rfl⟩
      have HC1 := Lib.hid hc1
      have HC2 := Lib.hid hc2
      clear hc1 hc2
      go_upto_if 80 with (fail)
      go_cut [10] (fun s W => s = .int .i64 c1 ∧ W = WC)
      case first =>
        by_cases k1 : en < mc
        · have he3 : en = c1 := by rw [HC1.out]; omega
          have HE3 := Lib.hid he3
          clear he3
          go_wp2_with fail
          go_meet
          exact ⟨by rw [← HE3.out], rfl⟩
        · have he3 : mc = c1 := by rw [HC1.out]; omega
          have HE3 := Lib.hid he3
          clear he3
          go_wp2_with fail
          go_meet
          exact ⟨by rw [← HE3.out], rfl⟩
      case rest =>
        obtain ⟨rfl, rfl⟩ := hcut
        go_upto_if 84 with (fail)
        go_cut [10] (fun s W => s = .int .i64 c2 ∧ W = wc)
        case first =>
          by_cases k1 : ln2 < c1
          · have he3 : ln2 = c2 := by rw [HC2.out]; omega
            have HE3 := Lib.hid he3
            clear he3
            go_wp2_with fail
            go_meet
            exact ⟨by rw [← HE3.out], rfl⟩
          · have he3 : c1 = c2 := by rw [HC2.out]; omega
            have HE3 := Lib.hid he3
            clear he3
            go_wp2_with fail
            go_meet
            exact ⟨by rw [← HE3.out], rfl⟩
        case rest =>
          obtain ⟨rfl, rfl⟩ := hcut
          obtain ⟨e2, he2⟩ : ∃ e2 : Int, e2 = max en b := ⟨_, rfl⟩
          obtain ⟨cm, hcm⟩ : ∃ cm : Int, cm = max commit c2 := ⟨_, rfl⟩
          have HF0 := Lib.hid (show q = (⟨id, conf, term, vote, 0, ms, b, bt, es', snap, cm, wait, wait, [], [], []⟩, [⟨4, id, ms, term, e2, 0, 0, true, [], ByteArray.empty⟩]) from by
            have hcm2 : cm = max commit (min (min mc (mi + (me.length : Int))) (Tr.lastN b bt es')) := by rw [hcm, HC2.out, HC1.out, HEN.out, HLN2.out]
            rw [HQ.out, hcm2, he2, HEN.out]; rfl)
          have HE2' := Lib.hid he2
          have HCM0 := Lib.hid hcm
          clear he2 hcm
          by_cases k3 : commit < c2
          · have HCM : Hid (cm = c2) := Lib.hid (by rw [HCM0.out]; omega)
            have NB := Lib.hid ((NC.out.run.set 10 (.int .i64 c2)).nd ⟨id, conf, term, vote, 0, ms, b, bt, es', snap, c2, wait, wait, [], [], []⟩ (by simp only [nodeC, List.setIfInBounds_toArray, List.set_cons_succ, List.set_cons_zero, List.length_nil]) rfl rfl rfl rfl rfl)
            have HMB := Lib.hid (HMC.out.far (p := ⟨g, 10, none⟩) HMBG.out (.int .i64 c2))
            have HTB := Lib.hid (HTC.out.far (p := ⟨g, 10, none⟩) HGT.out.1.symm (.int .i64 c2))
            have HBB := Lib.hid (HBC.out.setCell (p := ⟨g, 10, none⟩) N2.out.ge (.int .i64 c2))
            go_upto_region 21 with (fail)
            generalize wc.setCell ⟨g, 10, none⟩ (.int .i64 c2) = WB at *
            clear hccC hmmC hglC hgfC
            have hccB : ∀ i, WB.cell? ⟨g, i, none⟩ = (#[.int .i64 id, .slice cA conf.length cc, .int .i64 term, .int .i64 vote, .int .i64 0, .int .i64 ms, .int .i64 b, .int .i64 bt, .slice tA es'.length tc, .string snap, .int .i64 c2, .int .i64 wait, .int .i64 wait, .slice none 0 0, .slice none 0 0, .slice none 0 0, .slice oA L.length oc] : Array Value)[i]? := NB.out.blk.cells
            have hmmB : ∀ i, WB.cell? ⟨w.heap.size, i, none⟩ = (#[.int .i64 mk, .int .i64 ms, .int .i64 md, .int .i64 mt, .int .i64 mi, .int .i64 ml, .int .i64 mc, .bool my, .slice A me.length cap, .string mdt] : Array Value)[i]? := HMB.out.cells
            have httB : ∀ i, WB.cell? ⟨gt, i, none⟩ = (#[.int .i64 b, .int .i64 bt, .slice tA es'.length tc] : Array Value)[i]? := HTB.out.cells
            have HF := Lib.hid (show q = (⟨id, conf, term, vote, 0, ms, b, bt, es', snap, c2, wait, wait, [], [], []⟩, [⟨4, id, ms, term, e2, 0, 0, true, [], ByteArray.empty⟩]) from by rw [HF0.out, HCM.out])
            go_upto_if 101 with (fail)
            go_cut [9] (fun s W => s = .int .i64 e2 ∧ W = WB)
            case first =>
              by_cases k4 : en < b
              · have he3 : b = e2 := by rw [HE2'.out]; omega
                have HE3 := Lib.hid he3
                clear he3
                go_wp2_with fail
                go_meet
                exact ⟨by rw [HE3.out], rfl⟩
              · have he3 : en = e2 := by rw [HE2'.out]; omega
                have HE3 := Lib.hid he3
                clear he3
                go_wp2_with fail
                go_meet
                exact ⟨by rw [HE3.out], rfl⟩
            case rest =>
              obtain ⟨rfl, rfl⟩ := hcut
              go_wp2_with fail
              refine (say_calls NB (by omega) ⟨4, 0, ms, 0, e2, 0, 0, true, [], ByteArray.empty⟩ none 0 (Lib.hid ⟨Nat.le_refl _, RdZ.nil⟩)).mono ?_
              rintro e w10 ⟨rfl, ⟨col10, oA10, oc10, hN10⟩, hb10⟩
              have HN10 := Lib.hid hN10
              have HB10 := Lib.hid hb10
              clear hN10 hb10
              go_wp2_with fail
              go_end0
              rw [HF.out]
              exact ⟨rfl, ⟨col10, ⟨cA, cc, tA, tc, none, 0, none, 0, none, 0, oA10, oc10⟩, [⟨⟨4, id, ms, term, e2, 0, 0, true, [], ByteArray.empty⟩, none, 0⟩], rfl, rfl, rfl, HN10.out⟩, HBB.out.trans HB10.out⟩
          · have HCM : Hid (cm = commit) := Lib.hid (by rw [HCM0.out]; omega)
            have NB := NC
            have HMB := HMC
            have HTB := HTC
            have HBB := HBC
            go_upto_region 21 with (fail)
            obtain ⟨WB, hWB⟩ : ∃ WB, WB = wc := ⟨_, rfl⟩
            subst hWB
            clear hccC hmmC hglC hgfC
            have hccB : ∀ i, WB.cell? ⟨g, i, none⟩ = (#[.int .i64 id, .slice cA conf.length cc, .int .i64 term, .int .i64 vote, .int .i64 0, .int .i64 ms, .int .i64 b, .int .i64 bt, .slice tA es'.length tc, .string snap, .int .i64 commit, .int .i64 wait, .int .i64 wait, .slice none 0 0, .slice none 0 0, .slice none 0 0, .slice oA L.length oc] : Array Value)[i]? := NB.out.blk.cells
            have hmmB : ∀ i, WB.cell? ⟨w.heap.size, i, none⟩ = (#[.int .i64 mk, .int .i64 ms, .int .i64 md, .int .i64 mt, .int .i64 mi, .int .i64 ml, .int .i64 mc, .bool my, .slice A me.length cap, .string mdt] : Array Value)[i]? := HMB.out.cells
            have httB : ∀ i, WB.cell? ⟨gt, i, none⟩ = (#[.int .i64 b, .int .i64 bt, .slice tA es'.length tc] : Array Value)[i]? := HTB.out.cells
            have HF := Lib.hid (show q = (⟨id, conf, term, vote, 0, ms, b, bt, es', snap, commit, wait, wait, [], [], []⟩, [⟨4, id, ms, term, e2, 0, 0, true, [], ByteArray.empty⟩]) from by rw [HF0.out, HCM.out])
            go_upto_if 101 with (fail)
            go_cut [9] (fun s W => s = .int .i64 e2 ∧ W = WB)
            case first =>
              by_cases k4 : en < b
              · have he3 : b = e2 := by rw [HE2'.out]; omega
                have HE3 := Lib.hid he3
                clear he3
                go_wp2_with fail
                go_meet
                exact ⟨by rw [HE3.out], rfl⟩
              · have he3 : en = e2 := by rw [HE2'.out]; omega
                have HE3 := Lib.hid he3
                clear he3
                go_wp2_with fail
                go_meet
                exact ⟨by rw [HE3.out], rfl⟩
            case rest =>
              obtain ⟨rfl, rfl⟩ := hcut
              go_wp2_with fail
              refine (say_calls NB (by omega) ⟨4, 0, ms, 0, e2, 0, 0, true, [], ByteArray.empty⟩ none 0 (Lib.hid ⟨Nat.le_refl _, RdZ.nil⟩)).mono ?_
              rintro e w10 ⟨rfl, ⟨col10, oA10, oc10, hN10⟩, hb10⟩
              have HN10 := Lib.hid hN10
              have HB10 := Lib.hid hb10
              clear hN10 hb10
              go_wp2_with fail
              go_end0
              rw [HF.out]
              exact ⟨rfl, ⟨col10, ⟨cA, cc, tA, tc, none, 0, none, 0, none, 0, oA10, oc10⟩, [⟨⟨4, id, ms, term, e2, 0, 0, true, [], ByteArray.empty⟩, none, 0⟩], rfl, rfl, rfl, HN10.out⟩, HBB.out.trans HB10.out⟩
  · have HB82 := Lib.hid (bel_set (bel_set (bel_set HB7.out (g := w2.heap.size) (Nat.le_refl _) 0 (.int .i64 tb)) (g := w2.heap.size) (Nat.le_refl _) 1 (.int .i64 tbt)) (g := w2.heap.size) (Nat.le_refl _) 2 (.slice tA tn tc))
    have HT8 := Lib.hid (((HZ7.out.set 0 (.int .i64 tb)).set 1 (.int .i64 tbt)).set 2 (.slice tA tn tc))
    have HR8 : Hid (∀ es', o = some es' → tb = b ∧ tbt = bt ∧ tn = es'.length ∧ (OwnE (((w7.setCell ⟨w2.heap.size, 0, none⟩ (.int .i64 tb)).setCell ⟨w2.heap.size, 1, none⟩ (.int .i64 tbt)).setCell ⟨w2.heap.size, 2, none⟩ (.slice tA tn tc)) w2.heap.size (.slice tA tn tc) es' ∨ (tA = eA ∧ tc = ec ∧ es' = es))) := Lib.hid (fun es' h => by
      obtain ⟨h1, h2, h3, h4⟩ := HOK.out.2 es' h
      refine ⟨h1, h2, h3, ?_⟩
      rcases h4 with h4 | h4
      · have h5 : OwnE w7 (w2.heap.size + 1) (.slice tA tn tc) es' := by simpa using h4
        exact .inl (OwnE.low (OwnE.set (OwnE.set (OwnE.set h5 (Nat.lt_succ_self _)) (Nat.lt_succ_self _)) (Nat.lt_succ_self _)) (Nat.le_succ _))
      · exact .inr h4)
    generalize ((w7.setCell ⟨w2.heap.size, 0, none⟩ (.int .i64 tb)).setCell ⟨w2.heap.size, 1, none⟩ (.int .i64 tbt)).setCell ⟨w2.heap.size, 2, none⟩ (.slice tA tn tc) = w8 at *
    obtain ⟨gt, hgt⟩ : ∃ gt, gt = w2.heap.size := ⟨_, rfl⟩
    have HGE := Lib.hid (show w2.heap.size ≤ gt by rw [hgt]; exact Nat.le_refl _)
    rw [← hgt] at HT8 ⊢
    clear z7 y7 hgt
    have N8 := Lib.hid (N2.out.bel HB82.out)
    have HM8 := Lib.hid (HM2.out.bel HB82.out)
    have HB8 := Lib.hid (HB2.out.trans (bel_base HB82.out N2.out.rest.bs))
    have HGT : Hid (g ≠ gt ∧ w.heap.size ≠ gt) := Lib.hid (by have := HGE.out; have := N2.out.blk.lt; have := HM2.out.lt; omega)
    have hcc8 : ∀ i, w8.cell? ⟨g, i, none⟩ = (#[.int .i64 id, .slice cA conf.length cc, .int .i64 term, .int .i64 vote, .int .i64 0, .int .i64 ms, .int .i64 b, .int .i64 bt, .slice eA es.length ec, .string snap, .int .i64 commit, .int .i64 wait, .int .i64 wait, .slice none 0 0, .slice none 0 0, .slice none 0 0, .slice oA L.length oc] : Array Value)[i]? := N8.out.blk.cells
    have hmm8 : ∀ i, w8.cell? ⟨w.heap.size, i, none⟩ = (#[.int .i64 mk, .int .i64 ms, .int .i64 md, .int .i64 mt, .int .i64 mi, .int .i64 ml, .int .i64 mc, .bool my, .slice A me.length cap, .string mdt] : Array Value)[i]? := HM8.out.cells
    have hgl8 := N8.out.blk.lt
    go_wp2_with fail
    refine (HLC.out w8 N8.out.rest.es.rd).mono ?_
    rintro e w9 ⟨rfl, hb9⟩
    have N9 := Lib.hid (N8.out.bel hb9)
    have HM9 := Lib.hid (HM8.out.bel hb9)
    have HT9 := Lib.hid (HT8.out.bel hb9)
    have HB92 := Lib.hid (bel_tr HB82.out hb9)
    have HB9 := Lib.hid (HB8.out.trans (bel_base hb9 N8.out.rest.bs))
    have HR9 : Hid (∀ es', o = some es' → tb = b ∧ tbt = bt ∧ tn = es'.length ∧ (OwnE w9 w2.heap.size (.slice tA tn tc) es' ∨ (tA = eA ∧ tc = ec ∧ es' = es))) := Lib.hid (fun es' h => by
      obtain ⟨h1, h2, h3, h4⟩ := HR8.out es' h
      refine ⟨h1, h2, h3, ?_⟩
      rcases h4 with h4 | h4
      · exact .inl (OwnE.kept h4 hb9)
      · exact .inr h4)
    clear hb9 hcc8 hmm8 hgl8 N8 HM8 HT8 HB82 HB8 HR8
    have hcc9 : ∀ i, w9.cell? ⟨g, i, none⟩ = (#[.int .i64 id, .slice cA conf.length cc, .int .i64 term, .int .i64 vote, .int .i64 0, .int .i64 ms, .int .i64 b, .int .i64 bt, .slice eA es.length ec, .string snap, .int .i64 commit, .int .i64 wait, .int .i64 wait, .slice none 0 0, .slice none 0 0, .slice none 0 0, .slice oA L.length oc] : Array Value)[i]? := N9.out.blk.cells
    have hmm9 : ∀ i, w9.cell? ⟨w.heap.size, i, none⟩ = (#[.int .i64 mk, .int .i64 ms, .int .i64 md, .int .i64 mt, .int .i64 mi, .int .i64 ml, .int .i64 mc, .bool my, .slice A me.length cap, .string mdt] : Array Value)[i]? := HM9.out.cells
    have htt9 : ∀ i, w9.cell? ⟨gt, i, none⟩ = (#[.int .i64 tb, .int .i64 tbt, .slice tA tn tc] : Array Value)[i]? := HT9.out.cells
    have hgl9 := N9.out.blk.lt
    have hgf9 := N9.out.blk.free
    have hwi : IntKind.i64.wrap (mi - 1) = mi - 1 := IntWalk.i64_in _ (by omega)
    cases ok with
    | false =>
      have hon : o = none := by have := HOK.out.1; cases o with | none => rfl | some _ => cases this
      rw [hon] at HQ
      clear hon
      obtain ⟨h1, hh1⟩ : ∃ h1 : Int, h1 = max (mi - 1) 0 := ⟨_, rfl⟩
      obtain ⟨h2, hh2⟩ : ∃ h2 : Int, h2 = min ln h1 := ⟨_, rfl⟩
      have HH1 := Lib.hid hh1
      have HH2 := Lib.hid hh2
      clear hh1 hh2
      have HF := Lib.hid (show q = (⟨id, conf, term, vote, 0, ms, b, bt, es, snap, commit, wait, wait, [], [], []⟩, [⟨4, id, ms, term, h2, 0, 0, false, [], ByteArray.empty⟩]) from by
        rw [HQ.out, HH2.out, HH1.out, HLG.out]; rfl)
      go_upto_if 49 with (fail)
      go_cut [8] (fun s W => s = .int .i64 h1 ∧ W = w9)
      case first =>
        by_cases k1 : mi - 1 < 0
        · have he3 : (0 : Int) = h1 := by rw [HH1.out]; omega
          have HE3 := Lib.hid he3
          clear he3
          go_wp2_with fail
          go_meet
          exact ⟨by rw [← HE3.out], rfl⟩
        · have he3 : mi - 1 = h1 := by rw [HH1.out]; omega
          have HE3 := Lib.hid he3
          clear he3
          go_wp2_with fail
          go_meet
          exact ⟨by rw [← HE3.out], rfl⟩
      case rest =>
        obtain ⟨rfl, rfl⟩ := hcut
        go_upto_if 52 with (fail)
        go_cut [8] (fun s W => s = .int .i64 h2 ∧ W = wc)
        case first =>
          by_cases k1 : ln < h1
          · have he3 : ln = h2 := by rw [HH2.out]; omega
            have HE3 := Lib.hid he3
            clear he3
            go_wp2_with fail
            go_meet
            exact ⟨by rw [← HE3.out], rfl⟩
          · have he3 : h1 = h2 := by rw [HH2.out]; omega
            have HE3 := Lib.hid he3
            clear he3
            go_wp2_with fail
            go_meet
            exact ⟨by rw [← HE3.out], rfl⟩
        case rest =>
          obtain ⟨rfl, rfl⟩ := hcut
          go_wp2_with fail
          refine (say_calls N9 (by omega) ⟨4, 0, ms, 0, h2, 0, 0, false, [], ByteArray.empty⟩ none 0 (Lib.hid ⟨Nat.le_refl _, RdZ.nil⟩)).mono ?_
          rintro e w10 ⟨rfl, ⟨col10, oA10, oc10, hN10⟩, hb10⟩
          have HN10 := Lib.hid hN10
          have HB10 := Lib.hid hb10
          clear hN10 hb10
          go_wp2_with fail
          go_end0
          rw [HF.out]
          exact ⟨rfl, ⟨col10, ⟨cA, cc, eA, ec, none, 0, none, 0, none, 0, oA10, oc10⟩, [⟨⟨4, id, ms, term, h2, 0, 0, false, [], ByteArray.empty⟩, none, 0⟩], rfl, rfl, rfl, HN10.out⟩, HB9.out.trans HB10.out⟩
    | true =>
      obtain ⟨es', hoe⟩ : ∃ es', o = some es' := by have := HOK.out.1; cases o with | none => cases this | some e => exact ⟨e, rfl⟩
      obtain ⟨e1, e2, e3, hOt⟩ := HR9.out es' hoe
      obtain ⟨p1, p2, p3⟩ := HPUT.out es' hoe
      rw [hoe] at HQ
      clear HR9 HPUT hoe
      obtain rfl := e1.symm
      obtain rfl := e2.symm
      subst e3
      have hNA : ∃ colA, Nd 36 base g colA ⟨id, conf, term, vote, 0, ms, b, bt, es', snap, commit, wait, wait, [], [], []⟩ ⟨cA, cc, tA, tc, none, 0, none, 0, none, 0, oA, oc⟩ L (((w9.setCell ⟨g, 6, none⟩ (.int .i64 b)).setCell ⟨g, 7, none⟩ (.int .i64 bt)).setCell ⟨g, 8, none⟩ (.slice tA es'.length tc)) := by
        rcases hOt with hOt | ⟨e1, e2, e3⟩
        · exact ⟨_, N2.out.log_new HB92.out b bt hOt⟩
        · subst e1; subst e2; subst e3
          exact ⟨_, (((N9.out.run.set 6 (.int .i64 b)).set 7 (.int .i64 bt)).set 8 (.slice tA es'.length tc)).nd _ (by simp only [nodeC, List.setIfInBounds_toArray, List.set_cons_succ, List.set_cons_zero, List.length_nil]) rfl rfl rfl rfl rfl⟩
      obtain ⟨colA, hNA⟩ := hNA
      have NA := Lib.hid hNA
      have HMA := Lib.hid (((HM9.out.far (p := ⟨g, 6, none⟩) HMBG.out (.int .i64 b)).far (p := ⟨g, 7, none⟩) HMBG.out (.int .i64 bt)).far (p := ⟨g, 8, none⟩) HMBG.out (.slice tA es'.length tc))
      have HTA := Lib.hid (((HT9.out.far (p := ⟨g, 6, none⟩) HGT.out.1.symm (.int .i64 b)).far (p := ⟨g, 7, none⟩) HGT.out.1.symm (.int .i64 bt)).far (p := ⟨g, 8, none⟩) HGT.out.1.symm (.slice tA es'.length tc))
      have HBA := Lib.hid (((HB9.out.setCell (p := ⟨g, 6, none⟩) N2.out.ge (.int .i64 b)).setCell (p := ⟨g, 7, none⟩) N2.out.ge (.int .i64 bt)).setCell (p := ⟨g, 8, none⟩) N2.out.ge (.slice tA es'.length tc))
      clear hNA hOt
      go_upto_region 12 with (fail)
      generalize ((w9.setCell ⟨g, 6, none⟩ (.int .i64 b)).setCell ⟨g, 7, none⟩ (.int .i64 bt)).setCell ⟨g, 8, none⟩ (.slice tA es'.length tc) = WA at *
      clear hcc9 hmm9 htt9 hgl9 hgf9
      obtain ⟨ln2, hln2⟩ : ∃ ln2, ln2 = Tr.lastN b bt es' := ⟨_, rfl⟩
      have hl3 : 0 ≤ ln2 ∧ ln2 ≤ 1099511627776 := by rw [hln2]; exact ⟨p1, p2⟩
      have HLN2 := Lib.hid hln2
      have HLC2 := Lib.hid (rlast2_calls b bt tA tc es' WA NA.out.rest.es.rd (by omega))
      rw [← HLN2.out] at HLC2
      obtain ⟨en, hen⟩ : ∃ en : Int, en = mi + me.length := ⟨_, rfl⟩
      have hen2 : 0 ≤ en ∧ en ≤ 1099511627800 := by rw [hen]; omega
      have hwe : IntKind.i64.wrap (mi + (me.length : Int)) = en := by rw [hen]; exact IntWalk.i64_in _ (by omega)
      have HEN := Lib.hid hen
      have httA : ∀ i, WA.cell? ⟨gt, i, none⟩ = (#[.int .i64 b, .int .i64 bt, .slice tA es'.length tc] : Array Value)[i]? := HTA.out.cells
      clear hln2 hen p1 p2
      go_wp2_with fail
      refine HLC2.out.mono ?_
      rintro e WC ⟨rfl, hbC⟩
      have NC := Lib.hid (NA.out.bel hbC)
      have HMC := Lib.hid (HMA.out.bel hbC)
      have HTC := Lib.hid (HTA.out.bel hbC)
      have HBC := Lib.hid (HBA.out.trans (bel_base hbC NA.out.rest.bs))
      clear hbC httA NA HMA HTA HBA HLC2
      have hccC : ∀ i, WC.cell? ⟨g, i, none⟩ = (#[.int .i64 id, .slice cA conf.length cc, .int .i64 term, .int .i64 vote, .int .i64 0, .int .i64 ms, .int .i64 b, .int .i64 bt, .slice tA es'.length tc, .string snap, .int .i64 commit, .int .i64 wait, .int .i64 wait, .slice none 0 0, .slice none 0 0, .slice none 0 0, .slice oA L.length oc] : Array Value)[i]? := NC.out.blk.cells
      have hmmC : ∀ i, WC.cell? ⟨w.heap.size, i, none⟩ = (#[.int .i64 mk, .int .i64 ms, .int .i64 md, .int .i64 mt, .int .i64 mi, .int .i64 ml, .int .i64 mc, .bool my, .slice A me.length cap, .string mdt] : Array Value)[i]? := HMC.out.cells
      have hglC := NC.out.blk.lt
      have hgfC := NC.out.blk.free
      obtain ⟨c1, hc1⟩ : ∃ c1 : Int, c1 = min mc en := ⟨_, rfl⟩
      obtain ⟨c2, hc2⟩ : ∃ c2 : Int, c2 = min c1 ln2 := ⟨_, rfl⟩
      have HC1 := Lib.hid hc1
      have HC2 := Lib.hid hc2
      clear hc1 hc2
      go_upto_if 80 with (fail)
      go_cut [10] (fun s W => s = .int .i64 c1 ∧ W = WC)
      case first =>
        by_cases k1 : en < mc
        · have he3 : en = c1 := by rw [HC1.out]; omega
          have HE3 := Lib.hid he3
          clear he3
          go_wp2_with fail
          go_meet
          exact ⟨by rw [← HE3.out], rfl⟩
        · have he3 : mc = c1 := by rw [HC1.out]; omega
          have HE3 := Lib.hid he3
          clear he3
          go_wp2_with fail
          go_meet
          exact ⟨by rw [← HE3.out], rfl⟩
      case rest =>
        obtain ⟨rfl, rfl⟩ := hcut
        go_upto_if 84 with (fail)
        go_cut [10] (fun s W => s = .int .i64 c2 ∧ W = wc)
        case first =>
          by_cases k1 : ln2 < c1
          · have he3 : ln2 = c2 := by rw [HC2.out]; omega
            have HE3 := Lib.hid he3
            clear he3
            go_wp2_with fail
            go_meet
            exact ⟨by rw [← HE3.out], rfl⟩
          · have he3 : c1 = c2 := by rw [HC2.out]; omega
            have HE3 := Lib.hid he3
            clear he3
            go_wp2_with fail
            go_meet
            exact ⟨by rw [← HE3.out], rfl⟩
        case rest =>
          obtain ⟨rfl, rfl⟩ := hcut
          obtain ⟨e2, he2⟩ : ∃ e2 : Int, e2 = max en b := ⟨_, rfl⟩
          obtain ⟨cm, hcm⟩ : ∃ cm : Int, cm = max commit c2 := ⟨_, rfl⟩
          have HF0 := Lib.hid (show q = (⟨id, conf, term, vote, 0, ms, b, bt, es', snap, cm, wait, wait, [], [], []⟩, [⟨4, id, ms, term, e2, 0, 0, true, [], ByteArray.empty⟩]) from by
            have hcm2 : cm = max commit (min (min mc (mi + (me.length : Int))) (Tr.lastN b bt es')) := by rw [hcm, HC2.out, HC1.out, HEN.out, HLN2.out]
            rw [HQ.out, hcm2, he2, HEN.out]; rfl)
          have HE2' := Lib.hid he2
          have HCM0 := Lib.hid hcm
          clear he2 hcm
          by_cases k3 : commit < c2
          · have HCM : Hid (cm = c2) := Lib.hid (by rw [HCM0.out]; omega)
            have NB := Lib.hid ((NC.out.run.set 10 (.int .i64 c2)).nd ⟨id, conf, term, vote, 0, ms, b, bt, es', snap, c2, wait, wait, [], [], []⟩ (by simp only [nodeC, List.setIfInBounds_toArray, List.set_cons_succ, List.set_cons_zero, List.length_nil]) rfl rfl rfl rfl rfl)
            have HMB := Lib.hid (HMC.out.far (p := ⟨g, 10, none⟩) HMBG.out (.int .i64 c2))
            have HTB := Lib.hid (HTC.out.far (p := ⟨g, 10, none⟩) HGT.out.1.symm (.int .i64 c2))
            have HBB := Lib.hid (HBC.out.setCell (p := ⟨g, 10, none⟩) N2.out.ge (.int .i64 c2))
            go_upto_region 21 with (fail)
            generalize wc.setCell ⟨g, 10, none⟩ (.int .i64 c2) = WB at *
            clear hccC hmmC hglC hgfC
            have hccB : ∀ i, WB.cell? ⟨g, i, none⟩ = (#[.int .i64 id, .slice cA conf.length cc, .int .i64 term, .int .i64 vote, .int .i64 0, .int .i64 ms, .int .i64 b, .int .i64 bt, .slice tA es'.length tc, .string snap, .int .i64 c2, .int .i64 wait, .int .i64 wait, .slice none 0 0, .slice none 0 0, .slice none 0 0, .slice oA L.length oc] : Array Value)[i]? := NB.out.blk.cells
            have hmmB : ∀ i, WB.cell? ⟨w.heap.size, i, none⟩ = (#[.int .i64 mk, .int .i64 ms, .int .i64 md, .int .i64 mt, .int .i64 mi, .int .i64 ml, .int .i64 mc, .bool my, .slice A me.length cap, .string mdt] : Array Value)[i]? := HMB.out.cells
            have httB : ∀ i, WB.cell? ⟨gt, i, none⟩ = (#[.int .i64 b, .int .i64 bt, .slice tA es'.length tc] : Array Value)[i]? := HTB.out.cells
            have HF := Lib.hid (show q = (⟨id, conf, term, vote, 0, ms, b, bt, es', snap, c2, wait, wait, [], [], []⟩, [⟨4, id, ms, term, e2, 0, 0, true, [], ByteArray.empty⟩]) from by rw [HF0.out, HCM.out])
            go_upto_if 101 with (fail)
            go_cut [9] (fun s W => s = .int .i64 e2 ∧ W = WB)
            case first =>
              by_cases k4 : en < b
              · have he3 : b = e2 := by rw [HE2'.out]; omega
                have HE3 := Lib.hid he3
                clear he3
                go_wp2_with fail
                go_meet
                exact ⟨by rw [HE3.out], rfl⟩
              · have he3 : en = e2 := by rw [HE2'.out]; omega
                have HE3 := Lib.hid he3
                clear he3
                go_wp2_with fail
                go_meet
                exact ⟨by rw [HE3.out], rfl⟩
            case rest =>
              obtain ⟨rfl, rfl⟩ := hcut
              go_wp2_with fail
              refine (say_calls NB (by omega) ⟨4, 0, ms, 0, e2, 0, 0, true, [], ByteArray.empty⟩ none 0 (Lib.hid ⟨Nat.le_refl _, RdZ.nil⟩)).mono ?_
              rintro e w10 ⟨rfl, ⟨col10, oA10, oc10, hN10⟩, hb10⟩
              have HN10 := Lib.hid hN10
              have HB10 := Lib.hid hb10
              clear hN10 hb10
              go_wp2_with fail
              go_end0
              rw [HF.out]
              exact ⟨rfl, ⟨col10, ⟨cA, cc, tA, tc, none, 0, none, 0, none, 0, oA10, oc10⟩, [⟨⟨4, id, ms, term, e2, 0, 0, true, [], ByteArray.empty⟩, none, 0⟩], rfl, rfl, rfl, HN10.out⟩, HBB.out.trans HB10.out⟩
          · have HCM : Hid (cm = commit) := Lib.hid (by rw [HCM0.out]; omega)
            have NB := NC
            have HMB := HMC
            have HTB := HTC
            have HBB := HBC
            go_upto_region 21 with (fail)
            obtain ⟨WB, hWB⟩ : ∃ WB, WB = wc := ⟨_, rfl⟩
            subst hWB
            clear hccC hmmC hglC hgfC
            have hccB : ∀ i, WB.cell? ⟨g, i, none⟩ = (#[.int .i64 id, .slice cA conf.length cc, .int .i64 term, .int .i64 vote, .int .i64 0, .int .i64 ms, .int .i64 b, .int .i64 bt, .slice tA es'.length tc, .string snap, .int .i64 commit, .int .i64 wait, .int .i64 wait, .slice none 0 0, .slice none 0 0, .slice none 0 0, .slice oA L.length oc] : Array Value)[i]? := NB.out.blk.cells
            have hmmB : ∀ i, WB.cell? ⟨w.heap.size, i, none⟩ = (#[.int .i64 mk, .int .i64 ms, .int .i64 md, .int .i64 mt, .int .i64 mi, .int .i64 ml, .int .i64 mc, .bool my, .slice A me.length cap, .string mdt] : Array Value)[i]? := HMB.out.cells
            have httB : ∀ i, WB.cell? ⟨gt, i, none⟩ = (#[.int .i64 b, .int .i64 bt, .slice tA es'.length tc] : Array Value)[i]? := HTB.out.cells
            have HF := Lib.hid (show q = (⟨id, conf, term, vote, 0, ms, b, bt, es', snap, commit, wait, wait, [], [], []⟩, [⟨4, id, ms, term, e2, 0, 0, true, [], ByteArray.empty⟩]) from by rw [HF0.out, HCM.out])
            go_upto_if 101 with (fail)
            go_cut [9] (fun s W => s = .int .i64 e2 ∧ W = WB)
            case first =>
              by_cases k4 : en < b
              · have he3 : b = e2 := by rw [HE2'.out]; omega
                have HE3 := Lib.hid he3
                clear he3
                go_wp2_with fail
                go_meet
                exact ⟨by rw [HE3.out], rfl⟩
              · have he3 : en = e2 := by rw [HE2'.out]; omega
                have HE3 := Lib.hid he3
                clear he3
                go_wp2_with fail
                go_meet
                exact ⟨by rw [HE3.out], rfl⟩
            case rest =>
              obtain ⟨rfl, rfl⟩ := hcut
              go_wp2_with fail
              refine (say_calls NB (by omega) ⟨4, 0, ms, 0, e2, 0, 0, true, [], ByteArray.empty⟩ none 0 (Lib.hid ⟨Nat.le_refl _, RdZ.nil⟩)).mono ?_
              rintro e w10 ⟨rfl, ⟨col10, oA10, oc10, hN10⟩, hb10⟩
              have HN10 := Lib.hid hN10
              have HB10 := Lib.hid hb10
              clear hN10 hb10
              go_wp2_with fail
              go_end0
              rw [HF.out]
              exact ⟨rfl, ⟨col10, ⟨cA, cc, tA, tc, none, 0, none, 0, none, 0, oA10, oc10⟩, [⟨⟨4, id, ms, term, e2, 0, 0, true, [], ByteArray.empty⟩, none, 0⟩], rfl, rfl, rfl, HN10.out⟩, HBB.out.trans HB10.out⟩
end Go.Proofs.YtdladjgdhnkkcaaGreat
