
/-
  Contract of the reference of layer 14: a bundle comes.
  Conditions: the node lies in memory and is right, it takes the message, it leads no one.
-/
import Derived.Test.YtdladjgdhnkkcaaGreatZRf15ToRf13
import Derived.Test.YtdladjgdhnkkcaaGreatZTr9ToTrR2
import Derived.Test.YtdladjgdhnkkcaaGreatZRg1
import Derived.BigQuiet
import Derived.Deep.Cut
namespace Go.Proofs.YtdladjgdhnkkcaaGreat
open Go.RowKit
set_option linter.unusedVariables false
set_option linter.unusedSimpArgs false
set_option maxHeartbeats 4000000

set_option maxRecDepth 20000 in
theorem bundled_calls {base g : Nat} {col : Nat → Nat} {r : Nod} {x : NdX} {L : List MsgV} {w : World} (H : Hid (Nd 36 base g col r x L w)) (hL : L.length ≤ 800) (hB : Hid (Rf.Base r)) (hnx : r.next = []) (hmx : r.mtch = []) (m : Msg) (hT : Hid (Rf.Takes r m)) (A : Option Addr) (cap : Nat) :
    Calls Tryz.prog 31 #[.pointer (some ⟨g, 0, none⟩), msgV m A cap] w (Led 36 base g (Rf.bundle r m).1 x L (Rf.bundle r m).2 w) := by
  obtain ⟨q, hq⟩ : ∃ q, q = Rf.bundle r m := ⟨_, rfl⟩
  rw [← hq]
  have HQ := Lib.hid hq
  unfold Rf.bundle Rf.bundle1 at HQ
  have hrim := Tr.chk_rim hB.out.trail
  have hi0 := hT.out.i0
  have hi1 := hT.out.i1
  have hlen : r.es.length ≤ 4096 := hrim.2.2.2.2.2.1
  have hb01 : 0 ≤ r.b ∧ r.b ≤ 1099511627776 := ⟨hrim.1, hrim.2.1⟩
  have HEC : Hid (r.es.length ≤ x.ec) := Lib.hid (H.out.rest.es.le)
  clear hq hrim
  obtain ⟨id, conf, term, vote, role, leader, b, bt, es, snap, commit, left, wait, votes, next, mtch⟩ := r
  obtain ⟨mk, ms, md, mt, mi, ml, mc, my, me, mdt⟩ := m
  obtain ⟨cA, cc, eA, ec, vA, vc, nA, nc, mA, mc0, oA, oc⟩ := x
  simp only at hi0 hi1 hlen hb01 hnx hmx HEC
  subst hnx; subst hmx
  have HB1 := Lib.hid (bel_new (Below.refl w.heap.size w) (.cells #[.int .i64 mk, .int .i64 ms, .int .i64 md, .int .i64 mt, .int .i64 mi, .int .i64 ml, .int .i64 mc, .bool my, .slice A me.length cap, .string mdt] 30))
  have N1 := Lib.hid (H.out.bel HB1.out)
  have HM1 := Lib.hid (Blk.new w 30 #[.int .i64 mk, .int .i64 ms, .int .i64 md, .int .i64 mt, .int .i64 mi, .int .i64 ml, .int .i64 mc, .bool my, .slice A me.length cap, .string mdt])
  have HFO := Lib.hid (heard_calls N1 ⟨mk, ms, md, mt, mi, ml, mc, my, me, mdt⟩ A cap)
  have HMBG : Hid (w.heap.size ≠ g) := Lib.hid (by have := H.out.blk.lt; omega)
  obtain ⟨tm, htm⟩ : ∃ tm, tm = (if Tr.has b bt es mi = true then Tr.trm b bt es mi else 0) := ⟨_, rfl⟩
  obtain ⟨hs, hhs⟩ : ∃ hs, hs = Tr.has b bt es mi := ⟨_, rfl⟩
  have HTM := Lib.hid htm
  have HHS := Lib.hid hhs
  have HCH : Hid (Rf.cutHas (Rf.follow ⟨id, conf, term, vote, role, leader, b, bt, es, snap, commit, left, wait, votes, [], []⟩ ⟨mk, ms, md, mt, mi, ml, mc, my, me, mdt⟩) ⟨mk, ms, md, mt, mi, ml, mc, my, me, mdt⟩ = (hs && decide (tm = ml))) := Lib.hid (by rw [hhs, htm]; rfl)
  clear htm hhs
  go_enter Tryz.func31, Tryz.ntmps31
  go_wp2_with fail
  refine HFO.out.mono ?_
  rintro e w2 ⟨rfl, ⟨col2, hN2⟩, hb2, hal⟩
  have N2 : Hid (Nd 36 base g col2 ⟨id, conf, term, vote, 0, ms, b, bt, es, snap, commit, wait, wait, [], [], []⟩ ⟨cA, cc, eA, ec, none, 0, none, 0, none, 0, oA, oc⟩ L w2) := Lib.hid hN2
  have HB2 := Lib.hid ((bel_base HB1.out H.out.rest.bs).trans hb2)
  have HM2 := Lib.hid (HM1.out.same (hal w.heap.size HM1.out.lt HMBG.out))
  have hcc : ∀ i, w2.cell? ⟨g, i, none⟩ = (#[.int .i64 id, .slice cA conf.length cc, .int .i64 term, .int .i64 vote, .int .i64 0, .int .i64 ms, .int .i64 b, .int .i64 bt, .slice eA es.length ec, .string snap, .int .i64 commit, .int .i64 wait, .int .i64 wait, .slice none 0 0, .slice none 0 0, .slice none 0 0, .slice oA L.length oc] : Array Value)[i]? := N2.out.blk.cells
  have hmm : ∀ i, w2.cell? ⟨w.heap.size, i, none⟩ = (#[.int .i64 mk, .int .i64 ms, .int .i64 md, .int .i64 mt, .int .i64 mi, .int .i64 ml, .int .i64 mc, .bool my, .slice A me.length cap, .string mdt] : Array Value)[i]? := HM2.out.cells
  have HTC := Lib.hid (fun W (hR : RdE W eA es) => rterm2_calls b bt mi eA ec es W hR (by omega))
  rw [← HTM.out, ← HHS.out] at HTC
  clear hN2 hb2 HFO hal
  have hx1 : ¬ g = w.heap.size := fun e => HMBG.out e.symm
  have hx2 : ¬ w.heap.size = g := HMBG.out
  by_cases hci : commit < mi
  · go_upto_region 2 with (fail)
    go_quiet (fail)
    have N3 := Lib.hid (N2.out.bel (bel_drewN (Below.refl w2.heap.size w2) nq))
    have HM3 := Lib.hid (HM2.out.bel (bel_drewN (Below.refl w2.heap.size w2) nq))
    have HB3 := Lib.hid (HB2.out.trans (bel_base (bel_drewN (Below.refl w2.heap.size w2) nq) N2.out.rest.bs))
    generalize w2.drewN nq = w3 at *
    have hmm3 : ∀ i, w3.cell? ⟨w.heap.size, i, none⟩ = (#[.int .i64 mk, .int .i64 ms, .int .i64 md, .int .i64 mt, .int .i64 mi, .int .i64 ml, .int .i64 mc, .bool my, .slice A me.length cap, .string mdt] : Array Value)[i]? := HM3.out.cells
    clear hcc hmm
    have HBZ := Lib.hid (bel_new (Below.refl w3.heap.size w3) (.cells #[.int .i64 mi, .int .i64 ml, .slice none 0 0] 25))
    have N4 := Lib.hid (N3.out.bel HBZ.out)
    have HM4 := Lib.hid (HM3.out.bel HBZ.out)
    have HZ4 := Lib.hid (Blk.new w3 25 #[.int .i64 mi, .int .i64 ml, .slice none 0 0])
    go_upto_region 4 with (fail)
    generalize w3.alloc (.cells #[.int .i64 mi, .int .i64 ml, .slice none 0 0] 25) = w4 at *
    have SX : Sb w4 w4.drew := Below.drew (Below.refl _ _)
    have hne : Nonempty (InS (Sb w4)) := ⟨⟨_, SX⟩⟩
    have k0 : ∀ (z : InS (Sb w4)) i, z.val.cell? ⟨g, i, none⟩ = (#[.int .i64 id, .slice cA conf.length cc, .int .i64 term, .int .i64 vote, .int .i64 0, .int .i64 ms, .int .i64 b, .int .i64 bt, .slice eA es.length ec, .string snap, .int .i64 commit, .int .i64 wait, .int .i64 wait, .slice none 0 0, .slice none 0 0, .slice none 0 0, .slice oA L.length oc] : Array Value)[i]? := N4.out.blk.ins
    have k1 : ∀ (z : InS (Sb w4)) i, z.val.cell? ⟨w.heap.size, i, none⟩ = (#[.int .i64 mk, .int .i64 ms, .int .i64 md, .int .i64 mt, .int .i64 mi, .int .i64 ml, .int .i64 mc, .bool my, .slice A me.length cap, .string mdt] : Array Value)[i]? := HM4.out.ins
    refine wp_region_in (Sb w4) (by kernel_rfl) (by kernel_rfl) SX ?_
    repeat (go_big_quiet_step ((first | (go_at_call 74; exact calls_in_bel (fun _ _ h k => bel_tr h k) (HTC.out _ (rdE_in N4.out.rest.es.rd _))))))
    first | refine wpQuiet_nil ?_ | go_big_quiet_step (fail)
    intro w5 hW
    have hs5 := in_ok hW
    have N5 := Lib.hid (N4.out.bel hs5)
    have HM5 := Lib.hid (HM4.out.bel hs5)
    have HZ5 := Lib.hid (HZ4.out.bel hs5)
    have HB53 := Lib.hid (bel_tr HBZ.out hs5)
    have hcc5 : ∀ i, w5.cell? ⟨g, i, none⟩ = (#[.int .i64 id, .slice cA conf.length cc, .int .i64 term, .int .i64 vote, .int .i64 0, .int .i64 ms, .int .i64 b, .int .i64 bt, .slice eA es.length ec, .string snap, .int .i64 commit, .int .i64 wait, .int .i64 wait, .slice none 0 0, .slice none 0 0, .slice none 0 0, .slice oA L.length oc] : Array Value)[i]? := N5.out.blk.cells
    have hmm5 : ∀ i, w5.cell? ⟨w.heap.size, i, none⟩ = (#[.int .i64 mk, .int .i64 ms, .int .i64 md, .int .i64 mt, .int .i64 mi, .int .i64 ml, .int .i64 mc, .bool my, .slice A me.length cap, .string mdt] : Array Value)[i]? := HM5.out.cells
    have hzz5 : ∀ i, w5.cell? ⟨w3.heap.size, i, none⟩ = (#[.int .i64 mi, .int .i64 ml, .slice none 0 0] : Array Value)[i]? := HZ5.out.cells
    have hgl5 := N5.out.blk.lt
    have hgf5 := N5.out.blk.free
    have hg3 : ¬ g = w3.heap.size := by have := N3.out.blk.lt; omega
    have hm3 : ¬ w.heap.size = w3.heap.size := by have := HM3.out.lt; omega
    have hg3' : ¬ w3.heap.size = g := fun e => hg3 e.symm
    have HG3 := Lib.hid hg3
    have HMG3 := Lib.hid hm3
    clear hW hs5 k0 k1 SX hne hmm3 HTC
    cases hs with
    | false =>
      have HF := Lib.hid (show q = (⟨id, conf, term, vote, 0, ms, mi, ml, [], mdt, mi, wait, wait, [], [], []⟩, [⟨4, id, ms, term, mi, 0, 0, true, [], ByteArray.empty⟩]) from by
        have hf : Rf.cutHas (Rf.follow ⟨id, conf, term, vote, role, leader, b, bt, es, snap, commit, left, wait, votes, [], []⟩ ⟨mk, ms, md, mt, mi, ml, mc, my, me, mdt⟩) ⟨mk, ms, md, mt, mi, ml, mc, my, me, mdt⟩ = false := by rw [HCH.out]; rfl
        rw [HQ.out, if_pos (show (Rf.follow ⟨id, conf, term, vote, role, leader, b, bt, es, snap, commit, left, wait, votes, [], []⟩ ⟨mk, ms, md, mt, mi, ml, mc, my, me, mdt⟩).commit < mi from hci), hf]
        rfl)
      go_upto_region 11 with (fail)
      have N8 := Lib.hid (((((((Run.logged0 N5.out mi ml).set 6 (.int .i64 mi)).set 7 (.int .i64 ml)).set 8 (.slice none 0 0)).set 9 (.string mdt)).set 10 (.int .i64 mi)).nd ⟨id, conf, term, vote, 0, ms, mi, ml, [], mdt, mi, wait, wait, [], [], []⟩ (by simp only [nodeC, List.setIfInBounds_toArray, List.set_cons_succ, List.set_cons_zero, List.length_nil]) rfl rfl rfl rfl rfl)
      have HM8 := Lib.hid ((((((HM5.out).far (p := ⟨g, 6, none⟩) HMBG.out (.int .i64 mi)).far (p := ⟨g, 7, none⟩) HMBG.out (.int .i64 ml)).far (p := ⟨g, 8, none⟩) HMBG.out (.slice none 0 0)).far (p := ⟨g, 9, none⟩) HMBG.out (.string mdt)).far (p := ⟨g, 10, none⟩) HMBG.out (.int .i64 mi))
      have HB8 := Lib.hid (((((((HB3.out.trans (bel_base HB53.out N3.out.rest.bs))).setCell (p := ⟨g, 6, none⟩) H.out.ge (.int .i64 mi)).setCell (p := ⟨g, 7, none⟩) H.out.ge (.int .i64 ml)).setCell (p := ⟨g, 8, none⟩) H.out.ge (.slice none 0 0)).setCell (p := ⟨g, 9, none⟩) H.out.ge (.string mdt)).setCell (p := ⟨g, 10, none⟩) H.out.ge (.int .i64 mi))
      generalize ((((w5.setCell ⟨g, 6, none⟩ (.int .i64 mi)).setCell ⟨g, 7, none⟩ (.int .i64 ml)).setCell ⟨g, 8, none⟩ (.slice none 0 0)).setCell ⟨g, 9, none⟩ (.string mdt)).setCell ⟨g, 10, none⟩ (.int .i64 mi) = w8 at *
      have SX : Sb w8 w8.drew := Below.drew (Below.refl _ _)
      have hne : Nonempty (InS (Sb w8)) := ⟨⟨_, SX⟩⟩
      have k0 : ∀ (z : InS (Sb w8)) i, z.val.cell? ⟨g, i, none⟩ = (#[.int .i64 id, .slice cA conf.length cc, .int .i64 term, .int .i64 vote, .int .i64 0, .int .i64 ms, .int .i64 mi, .int .i64 ml, .slice none 0 0, .string mdt, .int .i64 mi, .int .i64 wait, .int .i64 wait, .slice none 0 0, .slice none 0 0, .slice none 0 0, .slice oA L.length oc] : Array Value)[i]? := N8.out.blk.ins
      have k1 : ∀ (z : InS (Sb w8)) i, z.val.cell? ⟨w.heap.size, i, none⟩ = (#[.int .i64 mk, .int .i64 ms, .int .i64 md, .int .i64 mt, .int .i64 mi, .int .i64 ml, .int .i64 mc, .bool my, .slice A me.length cap, .string mdt] : Array Value)[i]? := HM8.out.ins
      refine wp_region_tail_in 9 (Sb w8) (by kernel_rfl) (by kernel_rfl) SX ?_
      simp only [List.take_succ_cons, List.take_zero, List.drop_succ_cons, List.drop_zero]
      repeat (go_big_quiet_step (fail))
      first | refine wpQuiet_nil ?_ | go_big_quiet_step (fail)
      intro W9 hW
      have hs9 := in_ok hW
      have N9 := Lib.hid (N8.out.bel hs9)
      have HB9 := Lib.hid (HB8.out.trans (bel_base hs9 N8.out.rest.bs))
      clear hW hs9 k0 k1 SX hne
      go_wp2_with fail
      refine (say_calls N9 (by omega) ⟨4, 0, ms, 0, mi, 0, 0, true, [], ByteArray.empty⟩ none 0 (Lib.hid ⟨Nat.le_refl _, RdZ.nil⟩)).mono ?_
      rintro e w10 ⟨rfl, ⟨col10, oA10, oc10, hN10⟩, hb10⟩
      have HN10 := Lib.hid hN10
      have HB10 := Lib.hid hb10
      clear hN10 hb10
      go_wp2_with fail
      go_end0
      rw [HF.out]
      exact ⟨rfl, ⟨col10, ⟨cA, cc, none, 0, none, 0, none, 0, none, 0, oA10, oc10⟩, [⟨⟨4, id, ms, term, mi, 0, 0, true, [], ByteArray.empty⟩, none, 0⟩], rfl, rfl, rfl, HN10.out⟩, HB9.out.trans HB10.out⟩
    | true =>
      by_cases hte : tm = ml
      · have hteb : (tm == ml) = true := by rw [beq_iff_eq]; exact hte
        obtain ⟨es2, hes2⟩ : ∃ es2, es2 = es.drop (mi - b).toNat := ⟨_, rfl⟩
        have HCC : Hid (∀ W, RdE W eA es → Calls Tryz.prog 75 #[trV b bt eA es.length ec, .int .i64 mi] W fun e w' => (∃ A2 c2, e = .returned (.tuple #[trV mi ml A2 es2.length c2, .bool true]) ∧ OwnE w' W.heap.size (.slice A2 es2.length c2) es2) ∧ Below W.heap.size W w') := Lib.hid (fun W hR => (rcut_calls b bt mi eA ec es W hR (by omega) HEC.out).mono fun e w' ⟨⟨v, h1, h2⟩, h3⟩ => by
          have hh : Tr.has b bt es mi = true := HHS.out.symm
          rw [if_pos hh, ← hes2, show Tr.trm b bt es mi = ml from by rw [← hte, HTM.out, if_pos hh]] at h2
          obtain ⟨A2, c2, e2, k1⟩ := h2
          exact ⟨⟨A2, c2, by rw [h1, e2], k1⟩, h3⟩)
        have HES2 := Lib.hid hes2
        have HF := Lib.hid (show q = (⟨id, conf, term, vote, 0, ms, mi, ml, es2, mdt, mi, wait, wait, [], [], []⟩, [⟨4, id, ms, term, mi, 0, 0, true, [], ByteArray.empty⟩]) from by
          have hf : Rf.cutHas (Rf.follow ⟨id, conf, term, vote, role, leader, b, bt, es, snap, commit, left, wait, votes, [], []⟩ ⟨mk, ms, md, mt, mi, ml, mc, my, me, mdt⟩) ⟨mk, ms, md, mt, mi, ml, mc, my, me, mdt⟩ = true := by rw [HCH.out, decide_eq_true hte]; rfl
          rw [HES2.out, HQ.out, if_pos (show (Rf.follow ⟨id, conf, term, vote, role, leader, b, bt, es, snap, commit, left, wait, votes, [], []⟩ ⟨mk, ms, md, mt, mi, ml, mc, my, me, mdt⟩).commit < mi from hci), hf]
          rfl)
        clear hes2
        have HNE : Hid (g ≠ w5.heap.size) := Lib.hid (by have := N5.out.blk.lt; omega)
        have HNM : Hid (w.heap.size ≠ w5.heap.size) := Lib.hid (by have := HM5.out.lt; omega)
        have KA := Lib.hid (N5.out.bel (bel_drew (bel_new (Below.refl w5.heap.size w5) (.cells #[.int .i64 0, .int .i64 0, .slice none 0 0] 25))))
        have KM := Lib.hid (HM5.out.bel (bel_drew (bel_new (Below.refl w5.heap.size w5) (.cells #[.int .i64 0, .int .i64 0, .slice none 0 0] 25))))
        have KK5 := Lib.hid (show w5.drew.cell? ⟨g, 6, none⟩ = some (.int .i64 b) ∧ w5.drew.cell? ⟨g, 7, none⟩ = some (.int .i64 bt) ∧ w5.drew.cell? ⟨g, 8, none⟩ = some (.slice eA es.length ec) ∧ w5.drew.cell? ⟨w.heap.size, 4, none⟩ = some (.int .i64 mi) from ⟨(N5.out.blk).cells 6, (N5.out.blk).cells 7, (N5.out.blk).cells 8, (HM5.out).cells 4⟩)
        have KKA := Lib.hid (show ((w5.alloc (.cells #[.int .i64 0, .int .i64 0, .slice none 0 0] 25)).drew).cell? ⟨g, 6, none⟩ = some (.int .i64 b) ∧ ((w5.alloc (.cells #[.int .i64 0, .int .i64 0, .slice none 0 0] 25)).drew).cell? ⟨g, 7, none⟩ = some (.int .i64 bt) ∧ ((w5.alloc (.cells #[.int .i64 0, .int .i64 0, .slice none 0 0] 25)).drew).cell? ⟨g, 8, none⟩ = some (.slice eA es.length ec) ∧ ((w5.alloc (.cells #[.int .i64 0, .int .i64 0, .slice none 0 0] 25)).drew).cell? ⟨w.heap.size, 4, none⟩ = some (.int .i64 mi) from ⟨(KA.out.blk).cells 6, (KA.out.blk).cells 7, (KA.out.blk).cells 8, (KM.out).cells 4⟩)
        go_upto_region 6 with (fail)
        clear hcc5 hmm5 hzz5
        go_region_held3 (fun W => W.cell? ⟨g, 6, none⟩ = some (.int .i64 b) ∧ W.cell? ⟨g, 7, none⟩ = some (.int .i64 bt) ∧ W.cell? ⟨g, 8, none⟩ = some (.slice eA es.length ec) ∧ W.cell? ⟨w.heap.size, 4, none⟩ = some (.int .i64 mi))
          (first | exact KK5.out | exact KK7.out | exact KKA.out | exact ⟨((N7.out.bel (bel_new (Below.refl _ _) _)).blk).cells 6, ((N7.out.bel (bel_new (Below.refl _ _) _)).blk).cells 7, ((N7.out.bel (bel_new (Below.refl _ _) _)).blk).cells 8, (HM7.out.bel (bel_new (Below.refl _ _) _)).cells 4⟩ | exact ⟨(((N7.out.blk.far HNE.out _).far HNE.out _).far HNE.out _).cells 6, (((N7.out.blk.far HNE.out _).far HNE.out _).far HNE.out _).cells 7, (((N7.out.blk.far HNE.out _).far HNE.out _).far HNE.out _).cells 8, (((HM7.out.far HNM.out _).far HNM.out _).far HNM.out _).cells 4⟩)
          (first
            | (go_at_call 75
               refine (HCC.out w5.drew N5.out.rest.es.rd).mono ?_
               rintro e w7 ⟨⟨A2, c2, rfl, k1⟩, hb7⟩
               have N7 := Lib.hid ((N5.out.bel (bel_drew (Below.refl _ _))).bel hb7)
               have HM7 := Lib.hid ((HM5.out.bel (bel_drew (Below.refl _ _))).bel hb7)
               have HZ7 := Lib.hid ((HZ5.out.bel (bel_drew (Below.refl _ _))).bel hb7)
               have HB7 := Lib.hid (bel_tr (bel_drew HB53.out) hb7)
               have HSZ7 : Hid (w5.heap.size ≤ w7.heap.size) := Lib.hid hb7.size
               have HO7 : Hid (OwnE w7 w5.heap.size (.slice A2 es2.length c2) es2) := Lib.hid k1
               have KK7 := Lib.hid (show w7.cell? ⟨g, 6, none⟩ = some (.int .i64 b) ∧ w7.cell? ⟨g, 7, none⟩ = some (.int .i64 bt) ∧ w7.cell? ⟨g, 8, none⟩ = some (.slice eA es.length ec) ∧ w7.cell? ⟨w.heap.size, 4, none⟩ = some (.int .i64 mi) from ⟨(N7.out.blk).cells 6, (N7.out.blk).cells 7, (N7.out.blk).cells 8, (HM7.out).cells 4⟩)
               clear k1 hb7)
            | (go_at_call 75
               refine (HCC.out ((w5.alloc (.cells #[.int .i64 0, .int .i64 0, .slice none 0 0] 25)).drew) KA.out.rest.es.rd).mono ?_
               rintro e w7 ⟨⟨A2, c2, rfl, k1⟩, hb7⟩
               have N7 := Lib.hid (KA.out.bel hb7)
               have HM7 := Lib.hid (KM.out.bel hb7)
               have HZ7 := Lib.hid ((HZ5.out.bel (bel_drew (bel_new (Below.refl w5.heap.size w5) (.cells #[.int .i64 0, .int .i64 0, .slice none 0 0] 25)))).bel hb7)
               have HB7 := Lib.hid (bel_tr (bel_drew (bel_new HB53.out (.cells #[.int .i64 0, .int .i64 0, .slice none 0 0] 25))) hb7)
               have HT7 := Lib.hid (((Blk.new w5 25 #[.int .i64 0, .int .i64 0, .slice none 0 0]).drewN 1).bel hb7)
               have HSZ7 : Hid (w5.heap.size ≤ w7.heap.size) := Lib.hid (by have := hb7.size; simp at this; omega)
               have HO7 : Hid (OwnE w7 (w5.heap.size + 1) (.slice A2 es2.length c2) es2) := Lib.hid (by simpa using k1)
               have KK7 := Lib.hid (show w7.cell? ⟨g, 6, none⟩ = some (.int .i64 b) ∧ w7.cell? ⟨g, 7, none⟩ = some (.int .i64 bt) ∧ w7.cell? ⟨g, 8, none⟩ = some (.slice eA es.length ec) ∧ w7.cell? ⟨w.heap.size, 4, none⟩ = some (.int .i64 mi) from ⟨(N7.out.blk).cells 6, (N7.out.blk).cells 7, (N7.out.blk).cells 8, (HM7.out).cells 4⟩)
               have z7 := HT7.out.free
               have y7 := HT7.out.cells
               clear k1 hb7))
        · have HB8 := Lib.hid (bel_new HB7.out (.cells #[.int .i64 mi, .int .i64 ml, .slice A2 es2.length c2] 25))
          have N8 := Lib.hid (N3.out.bel HB8.out)
          have HZ8 := Lib.hid (HZ7.out.alloc (.cells #[.int .i64 mi, .int .i64 ml, .slice A2 es2.length c2] 25))
          have HT8 := Lib.hid (Blk.new w7 25 #[.int .i64 mi, .int .i64 ml, .slice A2 es2.length c2])
          have HO8 := Lib.hid (HO7.out.kept (bel_new (Below.refl _ _) (.cells #[.int .i64 mi, .int .i64 ml, .slice A2 es2.length c2] 25)))
          generalize w7.alloc (.cells #[.int .i64 mi, .int .i64 ml, .slice A2 es2.length c2] 25) = w8 at *
          obtain ⟨gt, hgt⟩ : ∃ gt, gt = w7.heap.size := ⟨_, rfl⟩
          have HGE := Lib.hid hgt
          rw [← hgt] at HT8 ⊢
          clear hgt
          have HGT8 : Hid (g ≠ gt ∧ w3.heap.size ≠ gt ∧ w.heap.size ≠ gt) := Lib.hid (by rw [HGE.out]; have h1 := N5.out.blk.lt; have h2 := HZ5.out.lt; have h3 := HM5.out.lt; have h4 := HSZ7.out; omega)
          have hcc8 : ∀ i, w8.cell? ⟨g, i, none⟩ = (#[.int .i64 id, .slice cA conf.length cc, .int .i64 term, .int .i64 vote, .int .i64 0, .int .i64 ms, .int .i64 b, .int .i64 bt, .slice eA es.length ec, .string snap, .int .i64 commit, .int .i64 wait, .int .i64 wait, .slice none 0 0, .slice none 0 0, .slice none 0 0, .slice oA L.length oc] : Array Value)[i]? := N8.out.blk.cells
          have hzz8 : ∀ i, w8.cell? ⟨w3.heap.size, i, none⟩ = (#[.int .i64 mi, .int .i64 ml, .slice none 0 0] : Array Value)[i]? := HZ8.out.cells
          have htt8 : ∀ i, w8.cell? ⟨gt, i, none⟩ = (#[.int .i64 mi, .int .i64 ml, .slice A2 es2.length c2] : Array Value)[i]? := HT8.out.cells
          have hzl8 := HZ8.out.lt
          have htl8 := HT8.out.lt
          have hzf8 := HZ8.out.free
          have hgt2 := HGT8.out.2.1
          have HB9 := Lib.hid (bel_set (bel_set (bel_set HB8.out (g := w3.heap.size) (Nat.le_refl _) 0 (.int .i64 mi)) (g := w3.heap.size) (Nat.le_refl _) 1 (.int .i64 ml)) (g := w3.heap.size) (Nat.le_refl _) 2 (.slice A2 es2.length c2))
          have HO9 := Lib.hid (OwnE.low (OwnE.set (OwnE.set (OwnE.set HO8.out HZ5.out.lt (i := 0) (u := .int .i64 mi)) HZ5.out.lt (i := 1) (u := .int .i64 ml)) HZ5.out.lt (i := 2) (u := .slice A2 es2.length c2)) (Nat.le_of_lt HZ5.out.lt))
          have N9 := Lib.hid (N3.out.bel HB9.out)
          have HM9 := Lib.hid (HM3.out.bel HB9.out)
          have HZ9 := Lib.hid (((HZ8.out.set 0 (.int .i64 mi)).set 1 (.int .i64 ml)).set 2 (.slice A2 es2.length c2))
          go_upto_region 8 with (fail)
          generalize ((w8.setCell ⟨w3.heap.size, 0, none⟩ (.int .i64 mi)).setCell ⟨w3.heap.size, 1, none⟩ (.int .i64 ml)).setCell ⟨w3.heap.size, 2, none⟩ (.slice A2 es2.length c2) = w9 at *
          clear hcc8 hzz8 htt8 hzl8 htl8 hzf8 hgt2 hgl5 hgf5
          have hcc9 : ∀ i, w9.cell? ⟨g, i, none⟩ = (#[.int .i64 id, .slice cA conf.length cc, .int .i64 term, .int .i64 vote, .int .i64 0, .int .i64 ms, .int .i64 b, .int .i64 bt, .slice eA es.length ec, .string snap, .int .i64 commit, .int .i64 wait, .int .i64 wait, .slice none 0 0, .slice none 0 0, .slice none 0 0, .slice oA L.length oc] : Array Value)[i]? := N9.out.blk.cells
          have hmm9 : ∀ i, w9.cell? ⟨w.heap.size, i, none⟩ = (#[.int .i64 mk, .int .i64 ms, .int .i64 md, .int .i64 mt, .int .i64 mi, .int .i64 ml, .int .i64 mc, .bool my, .slice A me.length cap, .string mdt] : Array Value)[i]? := HM9.out.cells
          have hzz9 : ∀ i, w9.cell? ⟨w3.heap.size, i, none⟩ = (#[.int .i64 mi, .int .i64 ml, .slice A2 es2.length c2] : Array Value)[i]? := HZ9.out.cells
          have hgl9 := N9.out.blk.lt
          have hgf9 := N9.out.blk.free
          go_upto_region 11 with (fail)
          have N8 := Lib.hid (((((((Run.logged N3.out HB9.out mi ml HO9.out).set 6 (.int .i64 mi)).set 7 (.int .i64 ml)).set 8 (.slice A2 es2.length c2)).set 9 (.string mdt)).set 10 (.int .i64 mi)).nd ⟨id, conf, term, vote, 0, ms, mi, ml, es2, mdt, mi, wait, wait, [], [], []⟩ (by simp only [nodeC, List.setIfInBounds_toArray, List.set_cons_succ, List.set_cons_zero, List.length_nil]) rfl rfl rfl rfl rfl)
          have HM8 := Lib.hid ((((((HM9.out).far (p := ⟨g, 6, none⟩) HMBG.out (.int .i64 mi)).far (p := ⟨g, 7, none⟩) HMBG.out (.int .i64 ml)).far (p := ⟨g, 8, none⟩) HMBG.out (.slice A2 es2.length c2)).far (p := ⟨g, 9, none⟩) HMBG.out (.string mdt)).far (p := ⟨g, 10, none⟩) HMBG.out (.int .i64 mi))
          have HB8 := Lib.hid (((((((HB3.out.trans (bel_base HB9.out N3.out.rest.bs))).setCell (p := ⟨g, 6, none⟩) H.out.ge (.int .i64 mi)).setCell (p := ⟨g, 7, none⟩) H.out.ge (.int .i64 ml)).setCell (p := ⟨g, 8, none⟩) H.out.ge (.slice A2 es2.length c2)).setCell (p := ⟨g, 9, none⟩) H.out.ge (.string mdt)).setCell (p := ⟨g, 10, none⟩) H.out.ge (.int .i64 mi))
          generalize ((((w9.setCell ⟨g, 6, none⟩ (.int .i64 mi)).setCell ⟨g, 7, none⟩ (.int .i64 ml)).setCell ⟨g, 8, none⟩ (.slice A2 es2.length c2)).setCell ⟨g, 9, none⟩ (.string mdt)).setCell ⟨g, 10, none⟩ (.int .i64 mi) = w8 at *
          have SX : Sb w8 w8.drew := Below.drew (Below.refl _ _)
          have hne : Nonempty (InS (Sb w8)) := ⟨⟨_, SX⟩⟩
          have k0 : ∀ (z : InS (Sb w8)) i, z.val.cell? ⟨g, i, none⟩ = (#[.int .i64 id, .slice cA conf.length cc, .int .i64 term, .int .i64 vote, .int .i64 0, .int .i64 ms, .int .i64 mi, .int .i64 ml, .slice A2 es2.length c2, .string mdt, .int .i64 mi, .int .i64 wait, .int .i64 wait, .slice none 0 0, .slice none 0 0, .slice none 0 0, .slice oA L.length oc] : Array Value)[i]? := N8.out.blk.ins
          have k1 : ∀ (z : InS (Sb w8)) i, z.val.cell? ⟨w.heap.size, i, none⟩ = (#[.int .i64 mk, .int .i64 ms, .int .i64 md, .int .i64 mt, .int .i64 mi, .int .i64 ml, .int .i64 mc, .bool my, .slice A me.length cap, .string mdt] : Array Value)[i]? := HM8.out.ins
          refine wp_region_tail_in 9 (Sb w8) (by kernel_rfl) (by kernel_rfl) SX ?_
          simp only [List.take_succ_cons, List.take_zero, List.drop_succ_cons, List.drop_zero]
          repeat (go_big_quiet_step (fail))
          first | refine wpQuiet_nil ?_ | go_big_quiet_step (fail)
          intro W9 hW
          have hs9 := in_ok hW
          have N9 := Lib.hid (N8.out.bel hs9)
          have HB9 := Lib.hid (HB8.out.trans (bel_base hs9 N8.out.rest.bs))
          clear hW hs9 k0 k1 SX hne
          go_wp2_with fail
          refine (say_calls N9 (by omega) ⟨4, 0, ms, 0, mi, 0, 0, true, [], ByteArray.empty⟩ none 0 (Lib.hid ⟨Nat.le_refl _, RdZ.nil⟩)).mono ?_
          rintro e w10 ⟨rfl, ⟨col10, oA10, oc10, hN10⟩, hb10⟩
          have HN10 := Lib.hid hN10
          have HB10 := Lib.hid hb10
          clear hN10 hb10
          go_wp2_with fail
          go_end0
          rw [HF.out]
          exact ⟨rfl, ⟨col10, ⟨cA, cc, A2, c2, none, 0, none, 0, none, 0, oA10, oc10⟩, [⟨⟨4, id, ms, term, mi, 0, 0, true, [], ByteArray.empty⟩, none, 0⟩], rfl, rfl, rfl, HN10.out⟩, HB9.out.trans HB10.out⟩
        · have HB8 := Lib.hid (bel_set (bel_set (bel_set HB7.out (g := w5.heap.size) HB53.out.size 0 (.int .i64 mi)) (g := w5.heap.size) HB53.out.size 1 (.int .i64 ml)) (g := w5.heap.size) HB53.out.size 2 (.slice A2 es2.length c2))
          have N8 := Lib.hid (N3.out.bel HB8.out)
          have HZNE : Hid (w3.heap.size ≠ w5.heap.size) := Lib.hid (Nat.ne_of_lt HZ5.out.lt)
          have HZ8 := Lib.hid (((HZ7.out.far (p := ⟨w5.heap.size, 0, none⟩) HZNE.out (.int .i64 mi)).far (p := ⟨w5.heap.size, 1, none⟩) HZNE.out (.int .i64 ml)).far (p := ⟨w5.heap.size, 2, none⟩) HZNE.out (.slice A2 es2.length c2))
          have HT8 := Lib.hid (((HT7.out.set 0 (.int .i64 mi)).set 1 (.int .i64 ml)).set 2 (.slice A2 es2.length c2))
          have HO8 := Lib.hid (OwnE.low (OwnE.set (OwnE.set (OwnE.set HO7.out (Nat.lt_succ_self _) (i := 0) (u := .int .i64 mi)) (Nat.lt_succ_self _) (i := 1) (u := .int .i64 ml)) (Nat.lt_succ_self _) (i := 2) (u := .slice A2 es2.length c2)) (Nat.le_succ _))
          generalize ((w7.setCell ⟨w5.heap.size, 0, none⟩ (.int .i64 mi)).setCell ⟨w5.heap.size, 1, none⟩ (.int .i64 ml)).setCell ⟨w5.heap.size, 2, none⟩ (.slice A2 es2.length c2) = w8 at *
          clear z7 y7
          obtain ⟨gt, hgt⟩ : ∃ gt, gt = w5.heap.size := ⟨_, rfl⟩
          have HGE := Lib.hid (show gt = w5.heap.size from hgt)
          rw [← hgt] at HT8 ⊢
          clear hgt
          have HGT8 : Hid (g ≠ gt ∧ w3.heap.size ≠ gt ∧ w.heap.size ≠ gt) := Lib.hid (by rw [HGE.out]; have h1 := N5.out.blk.lt; have h2 := HZ5.out.lt; have h3 := HM5.out.lt; have h4 := HSZ7.out; omega)
          have hcc8 : ∀ i, w8.cell? ⟨g, i, none⟩ = (#[.int .i64 id, .slice cA conf.length cc, .int .i64 term, .int .i64 vote, .int .i64 0, .int .i64 ms, .int .i64 b, .int .i64 bt, .slice eA es.length ec, .string snap, .int .i64 commit, .int .i64 wait, .int .i64 wait, .slice none 0 0, .slice none 0 0, .slice none 0 0, .slice oA L.length oc] : Array Value)[i]? := N8.out.blk.cells
          have hzz8 : ∀ i, w8.cell? ⟨w3.heap.size, i, none⟩ = (#[.int .i64 mi, .int .i64 ml, .slice none 0 0] : Array Value)[i]? := HZ8.out.cells
          have htt8 : ∀ i, w8.cell? ⟨gt, i, none⟩ = (#[.int .i64 mi, .int .i64 ml, .slice A2 es2.length c2] : Array Value)[i]? := HT8.out.cells
          have hzl8 := HZ8.out.lt
          have htl8 := HT8.out.lt
          have hzf8 := HZ8.out.free
          have hgt2 := HGT8.out.2.1
          have HB9 := Lib.hid (bel_set (bel_set (bel_set HB8.out (g := w3.heap.size) (Nat.le_refl _) 0 (.int .i64 mi)) (g := w3.heap.size) (Nat.le_refl _) 1 (.int .i64 ml)) (g := w3.heap.size) (Nat.le_refl _) 2 (.slice A2 es2.length c2))
          have HO9 := Lib.hid (OwnE.low (OwnE.set (OwnE.set (OwnE.set HO8.out HZ5.out.lt (i := 0) (u := .int .i64 mi)) HZ5.out.lt (i := 1) (u := .int .i64 ml)) HZ5.out.lt (i := 2) (u := .slice A2 es2.length c2)) (Nat.le_of_lt HZ5.out.lt))
          have N9 := Lib.hid (N3.out.bel HB9.out)
          have HM9 := Lib.hid (HM3.out.bel HB9.out)
          have HZ9 := Lib.hid (((HZ8.out.set 0 (.int .i64 mi)).set 1 (.int .i64 ml)).set 2 (.slice A2 es2.length c2))
          go_upto_region 8 with (fail)
          generalize ((w8.setCell ⟨w3.heap.size, 0, none⟩ (.int .i64 mi)).setCell ⟨w3.heap.size, 1, none⟩ (.int .i64 ml)).setCell ⟨w3.heap.size, 2, none⟩ (.slice A2 es2.length c2) = w9 at *
          clear hcc8 hzz8 htt8 hzl8 htl8 hzf8 hgt2 hgl5 hgf5
          have hcc9 : ∀ i, w9.cell? ⟨g, i, none⟩ = (#[.int .i64 id, .slice cA conf.length cc, .int .i64 term, .int .i64 vote, .int .i64 0, .int .i64 ms, .int .i64 b, .int .i64 bt, .slice eA es.length ec, .string snap, .int .i64 commit, .int .i64 wait, .int .i64 wait, .slice none 0 0, .slice none 0 0, .slice none 0 0, .slice oA L.length oc] : Array Value)[i]? := N9.out.blk.cells
          have hmm9 : ∀ i, w9.cell? ⟨w.heap.size, i, none⟩ = (#[.int .i64 mk, .int .i64 ms, .int .i64 md, .int .i64 mt, .int .i64 mi, .int .i64 ml, .int .i64 mc, .bool my, .slice A me.length cap, .string mdt] : Array Value)[i]? := HM9.out.cells
          have hzz9 : ∀ i, w9.cell? ⟨w3.heap.size, i, none⟩ = (#[.int .i64 mi, .int .i64 ml, .slice A2 es2.length c2] : Array Value)[i]? := HZ9.out.cells
          have hgl9 := N9.out.blk.lt
          have hgf9 := N9.out.blk.free
          go_upto_region 11 with (fail)
          have N8 := Lib.hid (((((((Run.logged N3.out HB9.out mi ml HO9.out).set 6 (.int .i64 mi)).set 7 (.int .i64 ml)).set 8 (.slice A2 es2.length c2)).set 9 (.string mdt)).set 10 (.int .i64 mi)).nd ⟨id, conf, term, vote, 0, ms, mi, ml, es2, mdt, mi, wait, wait, [], [], []⟩ (by simp only [nodeC, List.setIfInBounds_toArray, List.set_cons_succ, List.set_cons_zero, List.length_nil]) rfl rfl rfl rfl rfl)
          have HM8 := Lib.hid ((((((HM9.out).far (p := ⟨g, 6, none⟩) HMBG.out (.int .i64 mi)).far (p := ⟨g, 7, none⟩) HMBG.out (.int .i64 ml)).far (p := ⟨g, 8, none⟩) HMBG.out (.slice A2 es2.length c2)).far (p := ⟨g, 9, none⟩) HMBG.out (.string mdt)).far (p := ⟨g, 10, none⟩) HMBG.out (.int .i64 mi))
          have HB8 := Lib.hid (((((((HB3.out.trans (bel_base HB9.out N3.out.rest.bs))).setCell (p := ⟨g, 6, none⟩) H.out.ge (.int .i64 mi)).setCell (p := ⟨g, 7, none⟩) H.out.ge (.int .i64 ml)).setCell (p := ⟨g, 8, none⟩) H.out.ge (.slice A2 es2.length c2)).setCell (p := ⟨g, 9, none⟩) H.out.ge (.string mdt)).setCell (p := ⟨g, 10, none⟩) H.out.ge (.int .i64 mi))
          generalize ((((w9.setCell ⟨g, 6, none⟩ (.int .i64 mi)).setCell ⟨g, 7, none⟩ (.int .i64 ml)).setCell ⟨g, 8, none⟩ (.slice A2 es2.length c2)).setCell ⟨g, 9, none⟩ (.string mdt)).setCell ⟨g, 10, none⟩ (.int .i64 mi) = w8 at *
          have SX : Sb w8 w8.drew := Below.drew (Below.refl _ _)
          have hne : Nonempty (InS (Sb w8)) := ⟨⟨_, SX⟩⟩
          have k0 : ∀ (z : InS (Sb w8)) i, z.val.cell? ⟨g, i, none⟩ = (#[.int .i64 id, .slice cA conf.length cc, .int .i64 term, .int .i64 vote, .int .i64 0, .int .i64 ms, .int .i64 mi, .int .i64 ml, .slice A2 es2.length c2, .string mdt, .int .i64 mi, .int .i64 wait, .int .i64 wait, .slice none 0 0, .slice none 0 0, .slice none 0 0, .slice oA L.length oc] : Array Value)[i]? := N8.out.blk.ins
          have k1 : ∀ (z : InS (Sb w8)) i, z.val.cell? ⟨w.heap.size, i, none⟩ = (#[.int .i64 mk, .int .i64 ms, .int .i64 md, .int .i64 mt, .int .i64 mi, .int .i64 ml, .int .i64 mc, .bool my, .slice A me.length cap, .string mdt] : Array Value)[i]? := HM8.out.ins
          refine wp_region_tail_in 9 (Sb w8) (by kernel_rfl) (by kernel_rfl) SX ?_
          simp only [List.take_succ_cons, List.take_zero, List.drop_succ_cons, List.drop_zero]
          repeat (go_big_quiet_step (fail))
          first | refine wpQuiet_nil ?_ | go_big_quiet_step (fail)
          intro W9 hW
          have hs9 := in_ok hW
          have N9 := Lib.hid (N8.out.bel hs9)
          have HB9 := Lib.hid (HB8.out.trans (bel_base hs9 N8.out.rest.bs))
          clear hW hs9 k0 k1 SX hne
          go_wp2_with fail
          refine (say_calls N9 (by omega) ⟨4, 0, ms, 0, mi, 0, 0, true, [], ByteArray.empty⟩ none 0 (Lib.hid ⟨Nat.le_refl _, RdZ.nil⟩)).mono ?_
          rintro e w10 ⟨rfl, ⟨col10, oA10, oc10, hN10⟩, hb10⟩
          have HN10 := Lib.hid hN10
          have HB10 := Lib.hid hb10
          clear hN10 hb10
          go_wp2_with fail
          go_end0
          rw [HF.out]
          exact ⟨rfl, ⟨col10, ⟨cA, cc, A2, c2, none, 0, none, 0, none, 0, oA10, oc10⟩, [⟨⟨4, id, ms, term, mi, 0, 0, true, [], ByteArray.empty⟩, none, 0⟩], rfl, rfl, rfl, HN10.out⟩, HB9.out.trans HB10.out⟩
      · have hteb : (tm == ml) = false := by rw [beq_eq_false_iff_ne]; exact hte
        have HF := Lib.hid (show q = (⟨id, conf, term, vote, 0, ms, mi, ml, [], mdt, mi, wait, wait, [], [], []⟩, [⟨4, id, ms, term, mi, 0, 0, true, [], ByteArray.empty⟩]) from by
          have hf : Rf.cutHas (Rf.follow ⟨id, conf, term, vote, role, leader, b, bt, es, snap, commit, left, wait, votes, [], []⟩ ⟨mk, ms, md, mt, mi, ml, mc, my, me, mdt⟩) ⟨mk, ms, md, mt, mi, ml, mc, my, me, mdt⟩ = false := by rw [HCH.out]; rw [decide_eq_false hte]; rfl
          rw [HQ.out, if_pos (show (Rf.follow ⟨id, conf, term, vote, role, leader, b, bt, es, snap, commit, left, wait, votes, [], []⟩ ⟨mk, ms, md, mt, mi, ml, mc, my, me, mdt⟩).commit < mi from hci), hf]
          rfl)
        go_upto_region 11 with (fail)
        have N8 := Lib.hid (((((((Run.logged0 N5.out mi ml).set 6 (.int .i64 mi)).set 7 (.int .i64 ml)).set 8 (.slice none 0 0)).set 9 (.string mdt)).set 10 (.int .i64 mi)).nd ⟨id, conf, term, vote, 0, ms, mi, ml, [], mdt, mi, wait, wait, [], [], []⟩ (by simp only [nodeC, List.setIfInBounds_toArray, List.set_cons_succ, List.set_cons_zero, List.length_nil]) rfl rfl rfl rfl rfl)
        have HM8 := Lib.hid ((((((HM5.out).far (p := ⟨g, 6, none⟩) HMBG.out (.int .i64 mi)).far (p := ⟨g, 7, none⟩) HMBG.out (.int .i64 ml)).far (p := ⟨g, 8, none⟩) HMBG.out (.slice none 0 0)).far (p := ⟨g, 9, none⟩) HMBG.out (.string mdt)).far (p := ⟨g, 10, none⟩) HMBG.out (.int .i64 mi))
        have HB8 := Lib.hid (((((((HB3.out.trans (bel_base HB53.out N3.out.rest.bs))).setCell (p := ⟨g, 6, none⟩) H.out.ge (.int .i64 mi)).setCell (p := ⟨g, 7, none⟩) H.out.ge (.int .i64 ml)).setCell (p := ⟨g, 8, none⟩) H.out.ge (.slice none 0 0)).setCell (p := ⟨g, 9, none⟩) H.out.ge (.string mdt)).setCell (p := ⟨g, 10, none⟩) H.out.ge (.int .i64 mi))
        generalize ((((w5.setCell ⟨g, 6, none⟩ (.int .i64 mi)).setCell ⟨g, 7, none⟩ (.int .i64 ml)).setCell ⟨g, 8, none⟩ (.slice none 0 0)).setCell ⟨g, 9, none⟩ (.string mdt)).setCell ⟨g, 10, none⟩ (.int .i64 mi) = w8 at *
        have SX : Sb w8 w8.drew := Below.drew (Below.refl _ _)
        have hne : Nonempty (InS (Sb w8)) := ⟨⟨_, SX⟩⟩
        have k0 : ∀ (z : InS (Sb w8)) i, z.val.cell? ⟨g, i, none⟩ = (#[.int .i64 id, .slice cA conf.length cc, .int .i64 term, .int .i64 vote, .int .i64 0, .int .i64 ms, .int .i64 mi, .int .i64 ml, .slice none 0 0, .string mdt, .int .i64 mi, .int .i64 wait, .int .i64 wait, .slice none 0 0, .slice none 0 0, .slice none 0 0, .slice oA L.length oc] : Array Value)[i]? := N8.out.blk.ins
        have k1 : ∀ (z : InS (Sb w8)) i, z.val.cell? ⟨w.heap.size, i, none⟩ = (#[.int .i64 mk, .int .i64 ms, .int .i64 md, .int .i64 mt, .int .i64 mi, .int .i64 ml, .int .i64 mc, .bool my, .slice A me.length cap, .string mdt] : Array Value)[i]? := HM8.out.ins
        refine wp_region_tail_in 9 (Sb w8) (by kernel_rfl) (by kernel_rfl) SX ?_
        simp only [List.take_succ_cons, List.take_zero, List.drop_succ_cons, List.drop_zero]
        repeat (go_big_quiet_step (fail))
        first | refine wpQuiet_nil ?_ | go_big_quiet_step (fail)
        intro W9 hW
        have hs9 := in_ok hW
        have N9 := Lib.hid (N8.out.bel hs9)
        have HB9 := Lib.hid (HB8.out.trans (bel_base hs9 N8.out.rest.bs))
        clear hW hs9 k0 k1 SX hne
        go_wp2_with fail
        refine (say_calls N9 (by omega) ⟨4, 0, ms, 0, mi, 0, 0, true, [], ByteArray.empty⟩ none 0 (Lib.hid ⟨Nat.le_refl _, RdZ.nil⟩)).mono ?_
        rintro e w10 ⟨rfl, ⟨col10, oA10, oc10, hN10⟩, hb10⟩
        have HN10 := Lib.hid hN10
        have HB10 := Lib.hid hb10
        clear hN10 hb10
        go_wp2_with fail
        go_end0
        rw [HF.out]
        exact ⟨rfl, ⟨col10, ⟨cA, cc, none, 0, none, 0, none, 0, none, 0, oA10, oc10⟩, [⟨⟨4, id, ms, term, mi, 0, 0, true, [], ByteArray.empty⟩, none, 0⟩], rfl, rfl, rfl, HN10.out⟩, HB9.out.trans HB10.out⟩
  · have HF := Lib.hid (show q = (⟨id, conf, term, vote, 0, ms, b, bt, es, snap, commit, wait, wait, [], [], []⟩, [⟨4, id, ms, term, commit, 0, 0, true, [], ByteArray.empty⟩]) from by
      rw [HQ.out, if_neg (show ¬ (Rf.follow ⟨id, conf, term, vote, role, leader, b, bt, es, snap, commit, left, wait, votes, [], []⟩ ⟨mk, ms, md, mt, mi, ml, mc, my, me, mdt⟩).commit < mi from hci)]
      rfl)
    go_upto_region 2 with (fail)
    go_quiet (fail)
    have N3 := Lib.hid (N2.out.bel (bel_drewN (Below.refl w2.heap.size w2) nq))
    have HM3 := Lib.hid (HM2.out.bel (bel_drewN (Below.refl w2.heap.size w2) nq))
    have HB3 := Lib.hid (HB2.out.trans (bel_base (bel_drewN (Below.refl w2.heap.size w2) nq) N2.out.rest.bs))
    generalize w2.drewN nq = w3 at *
    clear hcc hmm
    go_upto_region 11 with (fail)
    have SX : Sb w3 w3.drew := Below.drew (Below.refl _ _)
    have hne : Nonempty (InS (Sb w3)) := ⟨⟨_, SX⟩⟩
    have k0 : ∀ (z : InS (Sb w3)) i, z.val.cell? ⟨g, i, none⟩ = (#[.int .i64 id, .slice cA conf.length cc, .int .i64 term, .int .i64 vote, .int .i64 0, .int .i64 ms, .int .i64 b, .int .i64 bt, .slice eA es.length ec, .string snap, .int .i64 commit, .int .i64 wait, .int .i64 wait, .slice none 0 0, .slice none 0 0, .slice none 0 0, .slice oA L.length oc] : Array Value)[i]? := N3.out.blk.ins
    have k1 : ∀ (z : InS (Sb w3)) i, z.val.cell? ⟨w.heap.size, i, none⟩ = (#[.int .i64 mk, .int .i64 ms, .int .i64 md, .int .i64 mt, .int .i64 mi, .int .i64 ml, .int .i64 mc, .bool my, .slice A me.length cap, .string mdt] : Array Value)[i]? := HM3.out.ins
    refine wp_region_tail_in 9 (Sb w3) (by kernel_rfl) (by kernel_rfl) SX ?_
    simp only [List.take_succ_cons, List.take_zero, List.drop_succ_cons, List.drop_zero]
    repeat (go_big_quiet_step (fail))
    first | refine wpQuiet_nil ?_ | go_big_quiet_step (fail)
    intro W9 hW
    have hs9 := in_ok hW
    have N9 := Lib.hid (N3.out.bel hs9)
    have HB9 := Lib.hid (HB3.out.trans (bel_base hs9 N3.out.rest.bs))
    clear hW hs9 k0 k1 SX hne
    go_wp2_with fail
    refine (say_calls N9 (by omega) ⟨4, 0, ms, 0, commit, 0, 0, true, [], ByteArray.empty⟩ none 0 (Lib.hid ⟨Nat.le_refl _, RdZ.nil⟩)).mono ?_
    rintro e w10 ⟨rfl, ⟨col10, oA10, oc10, hN10⟩, hb10⟩
    have HN10 := Lib.hid hN10
    have HB10 := Lib.hid hb10
    clear hN10 hb10
    go_wp2_with fail
    go_end0
    rw [HF.out]
    exact ⟨rfl, ⟨col10, ⟨cA, cc, eA, ec, none, 0, none, 0, none, 0, oA10, oc10⟩, [⟨⟨4, id, ms, term, commit, 0, 0, true, [], ByteArray.empty⟩, none, 0⟩], rfl, rfl, rfl, HN10.out⟩, HB9.out.trans HB10.out⟩
end Go.Proofs.YtdladjgdhnkkcaaGreat
