
/-
  Contract: a node is asked for its voice.
  Conditions: the node lies in memory.
-/
import Derived.Test.YtdladjgdhnkkcaaGreatZRf6ToRf9
import Derived.Test.YtdladjgdhnkkcaaGreatZRf10
namespace Go.Proofs.YtdladjgdhnkkcaaGreat
open Go.RowKit
set_option linter.unusedVariables false
set_option linter.unusedSimpArgs false
set_option maxHeartbeats 1000000

/-- since w1 -/
def Sb (w1 W : World) : Prop := Below w1.heap.size w1 W
theorem rdE_in {w1 : World} {A : Option Addr} {es : List En} (h : RdE w1 A es) (z : InS (Sb w1)) : RdE z.val A es := h.bel z.ok
theorem Nd.ins {t : TypeId} {base g : Nat} {col : Nat → Nat} {r : Nod} {x : NdX} {L : List MsgV} {w1 : World} (h : Nd t base g col r x L w1) (z : InS (Sb w1)) : Nd t base g col r x L z.val := h.bel z.ok

set_option maxRecDepth 20000 in
theorem ask_calls {base g : Nat} {col : Nat → Nat} {r : Nod} {x : NdX} {L : List MsgV} {w : World} (H : Hid (Nd 53 base g col r x L w)) (hL : L.length ≤ 800) (hlen : r.es.length ≤ 4096) (m : Msg) (A : Option Addr) (cap : Nat) :
    Calls Tryz.prog 20 #[.pointer (some ⟨g, 0, none⟩), msgV m A cap] w (Led 53 base g (Rf.ask r m).1 x L (Rf.ask r m).2 w) := by
  obtain ⟨q, hq⟩ : ∃ q, q = Rf.ask r m := ⟨_, rfl⟩
  rw [← hq]
  have HQ := Lib.hid hq
  unfold Rf.ask at HQ
  obtain ⟨y, hy⟩ : ∃ y, y = Rf.yes r m := ⟨_, rfl⟩
  rw [← hy] at HQ
  have HY := Lib.hid hy
  unfold Rf.yes at HY
  clear hq hy
  obtain ⟨id, conf, term, vote, role, leader, b, bt, es, snap, commit, left, wait, votes, next, mtch⟩ := r
  obtain ⟨mk, ms, md, mt, mi, ml, mc, my, me, mdt⟩ := m
  simp only at hlen
  have hC := H.out.blk.cells
  dsimp only [nodeC] at hC
  have hgl := H.out.blk.lt
  have HB1 := Lib.hid (bel_new (Below.refl w.heap.size w) (.cells #[.int .i64 mk, .int .i64 ms, .int .i64 md, .int .i64 mt, .int .i64 mi, .int .i64 ml, .int .i64 mc, .bool my, .slice A me.length cap, .string mdt] 30))
  have N1 := Lib.hid (H.out.bel HB1.out)
  have HM1 := Lib.hid (Blk.new w 30 #[.int .i64 mk, .int .i64 ms, .int .i64 md, .int .i64 mt, .int .i64 mi, .int .i64 ml, .int .i64 mc, .bool my, .slice A me.length cap, .string mdt])
  have HNW := Lib.hid (fun W (hR : RdE W x.eA es) => newer_calls b bt mi ml x.eA x.ec es W hR (by omega))
  obtain ⟨nw, hnw⟩ : ∃ nw, nw = Tr.newer b bt es mi ml := ⟨_, rfl⟩
  rw [← hnw] at HNW
  rw [show Tr.newer (Nod.mk id conf term vote role leader b bt es snap commit left wait votes next mtch).b (Nod.mk id conf term vote role leader b bt es snap commit left wait votes next mtch).bt (Nod.mk id conf term vote role leader b bt es snap commit left wait votes next mtch).es (Msg.mk mk ms md mt mi ml mc my me mdt).index (Msg.mk mk ms md mt mi ml mc my me mdt).lterm = nw from hnw.symm] at HY
  clear hnw
  by_cases hRl : role = 0
  · have hRlb : (role == 0) = true := by rw [beq_iff_eq]; exact hRl
    have hRld : decide (role = 0) = true := decide_eq_true hRl
    by_cases hA : vote = 0
    · have hAb : (vote == 0) = true := by rw [beq_iff_eq]; exact hA
      have hAd : decide (vote = 0) = true := decide_eq_true hA
      cases nw with
      | false =>
        have HYV : Hid (y = false) := Lib.hid (by rw [HY.out]; simp [hA, hRl])
        have HF : Hid (q = (⟨id, conf, term, vote, role, leader, b, bt, es, snap, commit, left, wait, votes, next, mtch⟩, [⟨2, id, ms, term, 0, 0, 0, false, [], ByteArray.empty⟩])) := Lib.hid (by rw [HQ.out, HYV.out]; rfl)
        go_enter Tryz.func20, Tryz.ntmps20
        go_wp2_with fail
        generalize w.alloc (.cells #[.int .i64 mk, .int .i64 ms, .int .i64 md, .int .i64 mt, .int .i64 mi, .int .i64 ml, .int .i64 mc, .bool my, .slice A me.length cap, .string mdt] 30) = w1 at *
        clear hC hgl
        have SX : Sb w1 w1.drew := Below.drew (Below.refl _ _)
        have hne : Nonempty (InS (Sb w1)) := ⟨⟨_, SX⟩⟩
        have k0 : ∀ (z : InS (Sb w1)) i, z.val.cell? ⟨g, i, none⟩ = (#[.int .i64 id, .slice x.cA conf.length x.cc, .int .i64 term, .int .i64 vote, .int .i64 role, .int .i64 leader, .int .i64 b, .int .i64 bt, .slice x.eA es.length x.ec, .string snap, .int .i64 commit, .int .i64 left, .int .i64 wait, .slice x.vA votes.length x.vc, .slice x.nA next.length x.nc, .slice x.mA mtch.length x.mc, .slice x.oA L.length x.oc] : Array Value)[i]? := fun z i => (z.ok.cell (p := ⟨g, i, none⟩) N1.out.blk.lt).trans (N1.out.blk.cells i)
        have k1 : ∀ (z : InS (Sb w1)) i, z.val.cell? ⟨w.heap.size, i, none⟩ = (#[.int .i64 mk, .int .i64 ms, .int .i64 md, .int .i64 mt, .int .i64 mi, .int .i64 ml, .int .i64 mc, .bool my, .slice A me.length cap, .string mdt] : Array Value)[i]? := fun z i => (z.ok.cell (p := ⟨w.heap.size, i, none⟩) HM1.out.lt).trans (HM1.out.cells i)
        refine wp_region_in (Sb w1) (by kernel_rfl) (by kernel_rfl) SX ?_
        repeat (go_big_quiet_step (((first | (go_at_call 57; exact calls_in_bel (fun _ _ h k => bel_tr h k) (HNW.out _ (rdE_in N1.out.rest.es.rd _)))))))
        first | refine wpQuiet_nil ?_ | go_big_quiet_step (fail)
        intro W2 hW
        have hs2 := in_ok hW
        have N2 := Lib.hid (N1.out.bel hs2)
        have HB2 := Lib.hid (bel_tr HB1.out hs2)
        have m2 : ∀ i, W2.cell? ⟨w.heap.size, i, none⟩ = (#[.int .i64 mk, .int .i64 ms, .int .i64 md, .int .i64 mt, .int .i64 mi, .int .i64 ml, .int .i64 mc, .bool my, .slice A me.length cap, .string mdt] : Array Value)[i]? := (HM1.out.bel hs2).cells
        have g2 := N2.out.blk.lt
        have f2 := N2.out.blk.free
        have z2 := (HM1.out.bel hs2).lt
        have cells2 : ∀ i, W2.cell? ⟨g, i, none⟩ = (#[.int .i64 id, .slice x.cA conf.length x.cc, .int .i64 term, .int .i64 vote, .int .i64 role, .int .i64 leader, .int .i64 b, .int .i64 bt, .slice x.eA es.length x.ec, .string snap, .int .i64 commit, .int .i64 left, .int .i64 wait, .slice x.vA votes.length x.vc, .slice x.nA next.length x.nc, .slice x.mA mtch.length x.mc, .slice x.oA L.length x.oc] : Array Value)[i]? := N2.out.blk.cells
        clear hW hs2 k0 k1 SX hne
        go_wp2_with fail
        refine (send_calls N2 (by omega) ⟨2, 0, ms, 0, 0, 0, 0, false, [], ByteArray.empty⟩ none 0 (Lib.hid ⟨Nat.le_refl _, RdZ.nil⟩)).mono ?_
        rintro e w3 ⟨rfl, ⟨col3, oA3, oc3, hN3⟩, hb3⟩
        have HN3 := Lib.hid hN3
        have HB3 := Lib.hid hb3
        clear hN3 hb3
        go_wp2_with fail
        go_end0
        rw [HF.out]
        exact ⟨rfl, ⟨col3, { x with oA := oA3, oc := oc3 }, _, rfl, rfl, rfl, HN3.out⟩, (bel_base HB2.out H.out.rest.bs).trans HB3.out⟩
      | true =>
        have HYV : Hid (y = true) := Lib.hid (by rw [HY.out]; simp [hA, hRl])
        have HF : Hid (q = (⟨id, conf, term, ms, role, leader, b, bt, es, snap, commit, wait, wait, votes, next, mtch⟩, [⟨2, id, ms, term, 0, 0, 0, true, [], ByteArray.empty⟩])) := Lib.hid (by rw [HQ.out, HYV.out]; rfl)
        go_enter Tryz.func20, Tryz.ntmps20
        go_wp2_with fail
        generalize w.alloc (.cells #[.int .i64 mk, .int .i64 ms, .int .i64 md, .int .i64 mt, .int .i64 mi, .int .i64 ml, .int .i64 mc, .bool my, .slice A me.length cap, .string mdt] 30) = w1 at *
        clear hC hgl
        have SX : Sb w1 w1.drew := Below.drew (Below.refl _ _)
        have hne : Nonempty (InS (Sb w1)) := ⟨⟨_, SX⟩⟩
        have k0 : ∀ (z : InS (Sb w1)) i, z.val.cell? ⟨g, i, none⟩ = (#[.int .i64 id, .slice x.cA conf.length x.cc, .int .i64 term, .int .i64 vote, .int .i64 role, .int .i64 leader, .int .i64 b, .int .i64 bt, .slice x.eA es.length x.ec, .string snap, .int .i64 commit, .int .i64 left, .int .i64 wait, .slice x.vA votes.length x.vc, .slice x.nA next.length x.nc, .slice x.mA mtch.length x.mc, .slice x.oA L.length x.oc] : Array Value)[i]? := fun z i => (z.ok.cell (p := ⟨g, i, none⟩) N1.out.blk.lt).trans (N1.out.blk.cells i)
        have k1 : ∀ (z : InS (Sb w1)) i, z.val.cell? ⟨w.heap.size, i, none⟩ = (#[.int .i64 mk, .int .i64 ms, .int .i64 md, .int .i64 mt, .int .i64 mi, .int .i64 ml, .int .i64 mc, .bool my, .slice A me.length cap, .string mdt] : Array Value)[i]? := fun z i => (z.ok.cell (p := ⟨w.heap.size, i, none⟩) HM1.out.lt).trans (HM1.out.cells i)
        refine wp_region_in (Sb w1) (by kernel_rfl) (by kernel_rfl) SX ?_
        repeat (go_big_quiet_step (((first | (go_at_call 57; exact calls_in_bel (fun _ _ h k => bel_tr h k) (HNW.out _ (rdE_in N1.out.rest.es.rd _)))))))
        first | refine wpQuiet_nil ?_ | go_big_quiet_step (fail)
        intro W2 hW
        have hs2 := in_ok hW
        have N2 := Lib.hid (N1.out.bel hs2)
        have HB2 := Lib.hid (bel_tr HB1.out hs2)
        have m2 : ∀ i, W2.cell? ⟨w.heap.size, i, none⟩ = (#[.int .i64 mk, .int .i64 ms, .int .i64 md, .int .i64 mt, .int .i64 mi, .int .i64 ml, .int .i64 mc, .bool my, .slice A me.length cap, .string mdt] : Array Value)[i]? := (HM1.out.bel hs2).cells
        have g2 := N2.out.blk.lt
        have f2 := N2.out.blk.free
        have z2 := (HM1.out.bel hs2).lt
        have cells2 : ∀ i, W2.cell? ⟨g, i, none⟩ = (#[.int .i64 id, .slice x.cA conf.length x.cc, .int .i64 term, .int .i64 vote, .int .i64 role, .int .i64 leader, .int .i64 b, .int .i64 bt, .slice x.eA es.length x.ec, .string snap, .int .i64 commit, .int .i64 left, .int .i64 wait, .slice x.vA votes.length x.vc, .slice x.nA next.length x.nc, .slice x.mA mtch.length x.mc, .slice x.oA L.length x.oc] : Array Value)[i]? := N2.out.blk.cells
        clear hW hs2 k0 k1 SX hne
        go_wp2_with fail
        go_region
        all_goals
          have N3 := Lib.hid ((((N2.out.run.set 3 (.int .i64 ms)).set 11 (.int .i64 wait)).nd ⟨id, conf, term, ms, role, leader, b, bt, es, snap, commit, wait, wait, votes, next, mtch⟩ (by simp only [nodeC, List.setIfInBounds_toArray, List.set_cons_succ, List.set_cons_zero]) rfl rfl rfl rfl rfl).bel (bel_drew (Below.refl _ _)))
          have HB3 := Lib.hid (bel_drew (((bel_base HB2.out H.out.rest.bs).setCell (p := ⟨g, 3, none⟩) H.out.ge (.int .i64 ms)).setCell (p := ⟨g, 11, none⟩) H.out.ge (.int .i64 wait)))
          go_wp2_with fail
          refine (send_calls N3 (by omega) ⟨2, 0, ms, 0, 0, 0, 0, true, [], ByteArray.empty⟩ none 0 (Lib.hid ⟨Nat.le_refl _, RdZ.nil⟩)).mono ?_
          rintro e w4 ⟨rfl, ⟨col4, oA4, oc4, hN4⟩, hb4⟩
          have HN4 := Lib.hid hN4
          have HB4 := Lib.hid hb4
          clear hN4 hb4
          go_wp2_with fail
          go_end0
          rw [HF.out]
          exact ⟨rfl, ⟨col4, { x with oA := oA4, oc := oc4 }, _, rfl, rfl, rfl, HN4.out⟩, HB3.out.trans HB4.out⟩
    · have hAb : (vote == 0) = false := by rw [beq_eq_false_iff_ne]; exact hA
      have hAd : decide (vote = 0) = false := decide_eq_false hA
      by_cases hD : vote = ms
      · obtain rfl : ms = vote := hD.symm
        
        cases nw with
        | false =>
          have HYV : Hid (y = false) := Lib.hid (by rw [HY.out]; simp [hRl])
          have HF : Hid (q = (⟨id, conf, term, ms, role, leader, b, bt, es, snap, commit, left, wait, votes, next, mtch⟩, [⟨2, id, ms, term, 0, 0, 0, false, [], ByteArray.empty⟩])) := Lib.hid (by rw [HQ.out, HYV.out]; rfl)
          go_enter Tryz.func20, Tryz.ntmps20
          go_wp2_with fail
          generalize w.alloc (.cells #[.int .i64 mk, .int .i64 ms, .int .i64 md, .int .i64 mt, .int .i64 mi, .int .i64 ml, .int .i64 mc, .bool my, .slice A me.length cap, .string mdt] 30) = w1 at *
          clear hC hgl
          have SX : Sb w1 w1.drew := Below.drew (Below.refl _ _)
          have hne : Nonempty (InS (Sb w1)) := ⟨⟨_, SX⟩⟩
          have k0 : ∀ (z : InS (Sb w1)) i, z.val.cell? ⟨g, i, none⟩ = (#[.int .i64 id, .slice x.cA conf.length x.cc, .int .i64 term, .int .i64 ms, .int .i64 role, .int .i64 leader, .int .i64 b, .int .i64 bt, .slice x.eA es.length x.ec, .string snap, .int .i64 commit, .int .i64 left, .int .i64 wait, .slice x.vA votes.length x.vc, .slice x.nA next.length x.nc, .slice x.mA mtch.length x.mc, .slice x.oA L.length x.oc] : Array Value)[i]? := fun z i => (z.ok.cell (p := ⟨g, i, none⟩) N1.out.blk.lt).trans (N1.out.blk.cells i)
          have k1 : ∀ (z : InS (Sb w1)) i, z.val.cell? ⟨w.heap.size, i, none⟩ = (#[.int .i64 mk, .int .i64 ms, .int .i64 md, .int .i64 mt, .int .i64 mi, .int .i64 ml, .int .i64 mc, .bool my, .slice A me.length cap, .string mdt] : Array Value)[i]? := fun z i => (z.ok.cell (p := ⟨w.heap.size, i, none⟩) HM1.out.lt).trans (HM1.out.cells i)
          refine wp_region_in (Sb w1) (by kernel_rfl) (by kernel_rfl) SX ?_
          repeat (go_big_quiet_step (((first | (go_at_call 57; exact calls_in_bel (fun _ _ h k => bel_tr h k) (HNW.out _ (rdE_in N1.out.rest.es.rd _)))))))
          first | refine wpQuiet_nil ?_ | go_big_quiet_step (fail)
          intro W2 hW
          have hs2 := in_ok hW
          have N2 := Lib.hid (N1.out.bel hs2)
          have HB2 := Lib.hid (bel_tr HB1.out hs2)
          have m2 : ∀ i, W2.cell? ⟨w.heap.size, i, none⟩ = (#[.int .i64 mk, .int .i64 ms, .int .i64 md, .int .i64 mt, .int .i64 mi, .int .i64 ml, .int .i64 mc, .bool my, .slice A me.length cap, .string mdt] : Array Value)[i]? := (HM1.out.bel hs2).cells
          have g2 := N2.out.blk.lt
          have f2 := N2.out.blk.free
          have z2 := (HM1.out.bel hs2).lt
          have cells2 : ∀ i, W2.cell? ⟨g, i, none⟩ = (#[.int .i64 id, .slice x.cA conf.length x.cc, .int .i64 term, .int .i64 ms, .int .i64 role, .int .i64 leader, .int .i64 b, .int .i64 bt, .slice x.eA es.length x.ec, .string snap, .int .i64 commit, .int .i64 left, .int .i64 wait, .slice x.vA votes.length x.vc, .slice x.nA next.length x.nc, .slice x.mA mtch.length x.mc, .slice x.oA L.length x.oc] : Array Value)[i]? := N2.out.blk.cells
          clear hW hs2 k0 k1 SX hne
          go_wp2_with fail
          refine (send_calls N2 (by omega) ⟨2, 0, ms, 0, 0, 0, 0, false, [], ByteArray.empty⟩ none 0 (Lib.hid ⟨Nat.le_refl _, RdZ.nil⟩)).mono ?_
          rintro e w3 ⟨rfl, ⟨col3, oA3, oc3, hN3⟩, hb3⟩
          have HN3 := Lib.hid hN3
          have HB3 := Lib.hid hb3
          clear hN3 hb3
          go_wp2_with fail
          go_end0
          rw [HF.out]
          exact ⟨rfl, ⟨col3, { x with oA := oA3, oc := oc3 }, _, rfl, rfl, rfl, HN3.out⟩, (bel_base HB2.out H.out.rest.bs).trans HB3.out⟩
        | true =>
          have HYV : Hid (y = true) := Lib.hid (by rw [HY.out]; simp [hRl])
          have HF : Hid (q = (⟨id, conf, term, ms, role, leader, b, bt, es, snap, commit, wait, wait, votes, next, mtch⟩, [⟨2, id, ms, term, 0, 0, 0, true, [], ByteArray.empty⟩])) := Lib.hid (by rw [HQ.out, HYV.out]; rfl)
          go_enter Tryz.func20, Tryz.ntmps20
          go_wp2_with fail
          generalize w.alloc (.cells #[.int .i64 mk, .int .i64 ms, .int .i64 md, .int .i64 mt, .int .i64 mi, .int .i64 ml, .int .i64 mc, .bool my, .slice A me.length cap, .string mdt] 30) = w1 at *
          clear hC hgl
          have SX : Sb w1 w1.drew := Below.drew (Below.refl _ _)
          have hne : Nonempty (InS (Sb w1)) := ⟨⟨_, SX⟩⟩
          have k0 : ∀ (z : InS (Sb w1)) i, z.val.cell? ⟨g, i, none⟩ = (#[.int .i64 id, .slice x.cA conf.length x.cc, .int .i64 term, .int .i64 ms, .int .i64 role, .int .i64 leader, .int .i64 b, .int .i64 bt, .slice x.eA es.length x.ec, .string snap, .int .i64 commit, .int .i64 left, .int .i64 wait, .slice x.vA votes.length x.vc, .slice x.nA next.length x.nc, .slice x.mA mtch.length x.mc, .slice x.oA L.length x.oc] : Array Value)[i]? := fun z i => (z.ok.cell (p := ⟨g, i, none⟩) N1.out.blk.lt).trans (N1.out.blk.cells i)
          have k1 : ∀ (z : InS (Sb w1)) i, z.val.cell? ⟨w.heap.size, i, none⟩ = (#[.int .i64 mk, .int .i64 ms, .int .i64 md, .int .i64 mt, .int .i64 mi, .int .i64 ml, .int .i64 mc, .bool my, .slice A me.length cap, .string mdt] : Array Value)[i]? := fun z i => (z.ok.cell (p := ⟨w.heap.size, i, none⟩) HM1.out.lt).trans (HM1.out.cells i)
          refine wp_region_in (Sb w1) (by kernel_rfl) (by kernel_rfl) SX ?_
          repeat (go_big_quiet_step (((first | (go_at_call 57; exact calls_in_bel (fun _ _ h k => bel_tr h k) (HNW.out _ (rdE_in N1.out.rest.es.rd _)))))))
          first | refine wpQuiet_nil ?_ | go_big_quiet_step (fail)
          intro W2 hW
          have hs2 := in_ok hW
          have N2 := Lib.hid (N1.out.bel hs2)
          have HB2 := Lib.hid (bel_tr HB1.out hs2)
          have m2 : ∀ i, W2.cell? ⟨w.heap.size, i, none⟩ = (#[.int .i64 mk, .int .i64 ms, .int .i64 md, .int .i64 mt, .int .i64 mi, .int .i64 ml, .int .i64 mc, .bool my, .slice A me.length cap, .string mdt] : Array Value)[i]? := (HM1.out.bel hs2).cells
          have g2 := N2.out.blk.lt
          have f2 := N2.out.blk.free
          have z2 := (HM1.out.bel hs2).lt
          have cells2 : ∀ i, W2.cell? ⟨g, i, none⟩ = (#[.int .i64 id, .slice x.cA conf.length x.cc, .int .i64 term, .int .i64 ms, .int .i64 role, .int .i64 leader, .int .i64 b, .int .i64 bt, .slice x.eA es.length x.ec, .string snap, .int .i64 commit, .int .i64 left, .int .i64 wait, .slice x.vA votes.length x.vc, .slice x.nA next.length x.nc, .slice x.mA mtch.length x.mc, .slice x.oA L.length x.oc] : Array Value)[i]? := N2.out.blk.cells
          clear hW hs2 k0 k1 SX hne
          go_wp2_with fail
          go_region
          all_goals
            have N3 := Lib.hid ((((N2.out.run.set 3 (.int .i64 ms)).set 11 (.int .i64 wait)).nd ⟨id, conf, term, ms, role, leader, b, bt, es, snap, commit, wait, wait, votes, next, mtch⟩ (by simp only [nodeC, List.setIfInBounds_toArray, List.set_cons_succ, List.set_cons_zero]) rfl rfl rfl rfl rfl).bel (bel_drew (Below.refl _ _)))
            have HB3 := Lib.hid (bel_drew (((bel_base HB2.out H.out.rest.bs).setCell (p := ⟨g, 3, none⟩) H.out.ge (.int .i64 ms)).setCell (p := ⟨g, 11, none⟩) H.out.ge (.int .i64 wait)))
            go_wp2_with fail
            refine (send_calls N3 (by omega) ⟨2, 0, ms, 0, 0, 0, 0, true, [], ByteArray.empty⟩ none 0 (Lib.hid ⟨Nat.le_refl _, RdZ.nil⟩)).mono ?_
            rintro e w4 ⟨rfl, ⟨col4, oA4, oc4, hN4⟩, hb4⟩
            have HN4 := Lib.hid hN4
            have HB4 := Lib.hid hb4
            clear hN4 hb4
            go_wp2_with fail
            go_end0
            rw [HF.out]
            exact ⟨rfl, ⟨col4, { x with oA := oA4, oc := oc4 }, _, rfl, rfl, rfl, HN4.out⟩, HB3.out.trans HB4.out⟩
      · have hDb : (vote == ms) = false := by rw [beq_eq_false_iff_ne]; exact hD
        have hDd : decide (vote = ms) = false := decide_eq_false hD
        have HYV : Hid (y = false) := Lib.hid (by rw [HY.out]; simp [hA, hD])
        have HF : Hid (q = (⟨id, conf, term, vote, role, leader, b, bt, es, snap, commit, left, wait, votes, next, mtch⟩, [⟨2, id, ms, term, 0, 0, 0, false, [], ByteArray.empty⟩])) := Lib.hid (by rw [HQ.out, HYV.out]; rfl)
        go_enter Tryz.func20, Tryz.ntmps20
        go_wp2_with fail
        generalize w.alloc (.cells #[.int .i64 mk, .int .i64 ms, .int .i64 md, .int .i64 mt, .int .i64 mi, .int .i64 ml, .int .i64 mc, .bool my, .slice A me.length cap, .string mdt] 30) = w1 at *
        clear hC hgl
        have SX : Sb w1 w1.drew := Below.drew (Below.refl _ _)
        have hne : Nonempty (InS (Sb w1)) := ⟨⟨_, SX⟩⟩
        have k0 : ∀ (z : InS (Sb w1)) i, z.val.cell? ⟨g, i, none⟩ = (#[.int .i64 id, .slice x.cA conf.length x.cc, .int .i64 term, .int .i64 vote, .int .i64 role, .int .i64 leader, .int .i64 b, .int .i64 bt, .slice x.eA es.length x.ec, .string snap, .int .i64 commit, .int .i64 left, .int .i64 wait, .slice x.vA votes.length x.vc, .slice x.nA next.length x.nc, .slice x.mA mtch.length x.mc, .slice x.oA L.length x.oc] : Array Value)[i]? := fun z i => (z.ok.cell (p := ⟨g, i, none⟩) N1.out.blk.lt).trans (N1.out.blk.cells i)
        have k1 : ∀ (z : InS (Sb w1)) i, z.val.cell? ⟨w.heap.size, i, none⟩ = (#[.int .i64 mk, .int .i64 ms, .int .i64 md, .int .i64 mt, .int .i64 mi, .int .i64 ml, .int .i64 mc, .bool my, .slice A me.length cap, .string mdt] : Array Value)[i]? := fun z i => (z.ok.cell (p := ⟨w.heap.size, i, none⟩) HM1.out.lt).trans (HM1.out.cells i)
        refine wp_region_in (Sb w1) (by kernel_rfl) (by kernel_rfl) SX ?_
        repeat (go_big_quiet_step (fail))
        first | refine wpQuiet_nil ?_ | go_big_quiet_step (fail)
        intro W2 hW
        have hs2 := in_ok hW
        have N2 := Lib.hid (N1.out.bel hs2)
        have HB2 := Lib.hid (bel_tr HB1.out hs2)
        have m2 : ∀ i, W2.cell? ⟨w.heap.size, i, none⟩ = (#[.int .i64 mk, .int .i64 ms, .int .i64 md, .int .i64 mt, .int .i64 mi, .int .i64 ml, .int .i64 mc, .bool my, .slice A me.length cap, .string mdt] : Array Value)[i]? := (HM1.out.bel hs2).cells
        have g2 := N2.out.blk.lt
        have f2 := N2.out.blk.free
        have z2 := (HM1.out.bel hs2).lt
        have cells2 : ∀ i, W2.cell? ⟨g, i, none⟩ = (#[.int .i64 id, .slice x.cA conf.length x.cc, .int .i64 term, .int .i64 vote, .int .i64 role, .int .i64 leader, .int .i64 b, .int .i64 bt, .slice x.eA es.length x.ec, .string snap, .int .i64 commit, .int .i64 left, .int .i64 wait, .slice x.vA votes.length x.vc, .slice x.nA next.length x.nc, .slice x.mA mtch.length x.mc, .slice x.oA L.length x.oc] : Array Value)[i]? := N2.out.blk.cells
        clear hW hs2 k0 k1 SX hne
        go_wp2_with fail
        refine (send_calls N2 (by omega) ⟨2, 0, ms, 0, 0, 0, 0, false, [], ByteArray.empty⟩ none 0 (Lib.hid ⟨Nat.le_refl _, RdZ.nil⟩)).mono ?_
        rintro e w3 ⟨rfl, ⟨col3, oA3, oc3, hN3⟩, hb3⟩
        have HN3 := Lib.hid hN3
        have HB3 := Lib.hid hb3
        clear hN3 hb3
        go_wp2_with fail
        go_end0
        rw [HF.out]
        exact ⟨rfl, ⟨col3, { x with oA := oA3, oc := oc3 }, _, rfl, rfl, rfl, HN3.out⟩, (bel_base HB2.out H.out.rest.bs).trans HB3.out⟩
  · have hRlb : (role == 0) = false := by rw [beq_eq_false_iff_ne]; exact hRl
    have hRld : decide (role = 0) = false := decide_eq_false hRl
    by_cases hA : vote = 0
    · have hAb : (vote == 0) = true := by rw [beq_iff_eq]; exact hA
      have hAd : decide (vote = 0) = true := decide_eq_true hA
      have HYV : Hid (y = false) := Lib.hid (by rw [HY.out]; simp [hRl])
      have HF : Hid (q = (⟨id, conf, term, vote, role, leader, b, bt, es, snap, commit, left, wait, votes, next, mtch⟩, [⟨2, id, ms, term, 0, 0, 0, false, [], ByteArray.empty⟩])) := Lib.hid (by rw [HQ.out, HYV.out]; rfl)
      go_enter Tryz.func20, Tryz.ntmps20
      go_wp2_with fail
      generalize w.alloc (.cells #[.int .i64 mk, .int .i64 ms, .int .i64 md, .int .i64 mt, .int .i64 mi, .int .i64 ml, .int .i64 mc, .bool my, .slice A me.length cap, .string mdt] 30) = w1 at *
      clear hC hgl
      have SX : Sb w1 w1.drew := Below.drew (Below.refl _ _)
      have hne : Nonempty (InS (Sb w1)) := ⟨⟨_, SX⟩⟩
      have k0 : ∀ (z : InS (Sb w1)) i, z.val.cell? ⟨g, i, none⟩ = (#[.int .i64 id, .slice x.cA conf.length x.cc, .int .i64 term, .int .i64 vote, .int .i64 role, .int .i64 leader, .int .i64 b, .int .i64 bt, .slice x.eA es.length x.ec, .string snap, .int .i64 commit, .int .i64 left, .int .i64 wait, .slice x.vA votes.length x.vc, .slice x.nA next.length x.nc, .slice x.mA mtch.length x.mc, .slice x.oA L.length x.oc] : Array Value)[i]? := fun z i => (z.ok.cell (p := ⟨g, i, none⟩) N1.out.blk.lt).trans (N1.out.blk.cells i)
      have k1 : ∀ (z : InS (Sb w1)) i, z.val.cell? ⟨w.heap.size, i, none⟩ = (#[.int .i64 mk, .int .i64 ms, .int .i64 md, .int .i64 mt, .int .i64 mi, .int .i64 ml, .int .i64 mc, .bool my, .slice A me.length cap, .string mdt] : Array Value)[i]? := fun z i => (z.ok.cell (p := ⟨w.heap.size, i, none⟩) HM1.out.lt).trans (HM1.out.cells i)
      refine wp_region_in (Sb w1) (by kernel_rfl) (by kernel_rfl) SX ?_
      repeat (go_big_quiet_step (fail))
      first | refine wpQuiet_nil ?_ | go_big_quiet_step (fail)
      intro W2 hW
      have hs2 := in_ok hW
      have N2 := Lib.hid (N1.out.bel hs2)
      have HB2 := Lib.hid (bel_tr HB1.out hs2)
      have m2 : ∀ i, W2.cell? ⟨w.heap.size, i, none⟩ = (#[.int .i64 mk, .int .i64 ms, .int .i64 md, .int .i64 mt, .int .i64 mi, .int .i64 ml, .int .i64 mc, .bool my, .slice A me.length cap, .string mdt] : Array Value)[i]? := (HM1.out.bel hs2).cells
      have g2 := N2.out.blk.lt
      have f2 := N2.out.blk.free
      have z2 := (HM1.out.bel hs2).lt
      have cells2 : ∀ i, W2.cell? ⟨g, i, none⟩ = (#[.int .i64 id, .slice x.cA conf.length x.cc, .int .i64 term, .int .i64 vote, .int .i64 role, .int .i64 leader, .int .i64 b, .int .i64 bt, .slice x.eA es.length x.ec, .string snap, .int .i64 commit, .int .i64 left, .int .i64 wait, .slice x.vA votes.length x.vc, .slice x.nA next.length x.nc, .slice x.mA mtch.length x.mc, .slice x.oA L.length x.oc] : Array Value)[i]? := N2.out.blk.cells
      clear hW hs2 k0 k1 SX hne
      go_wp2_with fail
      refine (send_calls N2 (by omega) ⟨2, 0, ms, 0, 0, 0, 0, false, [], ByteArray.empty⟩ none 0 (Lib.hid ⟨Nat.le_refl _, RdZ.nil⟩)).mono ?_
      rintro e w3 ⟨rfl, ⟨col3, oA3, oc3, hN3⟩, hb3⟩
      have HN3 := Lib.hid hN3
      have HB3 := Lib.hid hb3
      clear hN3 hb3
      go_wp2_with fail
      go_end0
      rw [HF.out]
      exact ⟨rfl, ⟨col3, { x with oA := oA3, oc := oc3 }, _, rfl, rfl, rfl, HN3.out⟩, (bel_base HB2.out H.out.rest.bs).trans HB3.out⟩
    · have hAb : (vote == 0) = false := by rw [beq_eq_false_iff_ne]; exact hA
      have hAd : decide (vote = 0) = false := decide_eq_false hA
      by_cases hD : vote = ms
      · obtain rfl : ms = vote := hD.symm
        have HYV : Hid (y = false) := Lib.hid (by rw [HY.out]; simp [hRl])
        have HF : Hid (q = (⟨id, conf, term, ms, role, leader, b, bt, es, snap, commit, left, wait, votes, next, mtch⟩, [⟨2, id, ms, term, 0, 0, 0, false, [], ByteArray.empty⟩])) := Lib.hid (by rw [HQ.out, HYV.out]; rfl)
        go_enter Tryz.func20, Tryz.ntmps20
        go_wp2_with fail
        generalize w.alloc (.cells #[.int .i64 mk, .int .i64 ms, .int .i64 md, .int .i64 mt, .int .i64 mi, .int .i64 ml, .int .i64 mc, .bool my, .slice A me.length cap, .string mdt] 30) = w1 at *
        clear hC hgl
        have SX : Sb w1 w1.drew := Below.drew (Below.refl _ _)
        have hne : Nonempty (InS (Sb w1)) := ⟨⟨_, SX⟩⟩
        have k0 : ∀ (z : InS (Sb w1)) i, z.val.cell? ⟨g, i, none⟩ = (#[.int .i64 id, .slice x.cA conf.length x.cc, .int .i64 term, .int .i64 ms, .int .i64 role, .int .i64 leader, .int .i64 b, .int .i64 bt, .slice x.eA es.length x.ec, .string snap, .int .i64 commit, .int .i64 left, .int .i64 wait, .slice x.vA votes.length x.vc, .slice x.nA next.length x.nc, .slice x.mA mtch.length x.mc, .slice x.oA L.length x.oc] : Array Value)[i]? := fun z i => (z.ok.cell (p := ⟨g, i, none⟩) N1.out.blk.lt).trans (N1.out.blk.cells i)
        have k1 : ∀ (z : InS (Sb w1)) i, z.val.cell? ⟨w.heap.size, i, none⟩ = (#[.int .i64 mk, .int .i64 ms, .int .i64 md, .int .i64 mt, .int .i64 mi, .int .i64 ml, .int .i64 mc, .bool my, .slice A me.length cap, .string mdt] : Array Value)[i]? := fun z i => (z.ok.cell (p := ⟨w.heap.size, i, none⟩) HM1.out.lt).trans (HM1.out.cells i)
        refine wp_region_in (Sb w1) (by kernel_rfl) (by kernel_rfl) SX ?_
        repeat (go_big_quiet_step (fail))
        first | refine wpQuiet_nil ?_ | go_big_quiet_step (fail)
        intro W2 hW
        have hs2 := in_ok hW
        have N2 := Lib.hid (N1.out.bel hs2)
        have HB2 := Lib.hid (bel_tr HB1.out hs2)
        have m2 : ∀ i, W2.cell? ⟨w.heap.size, i, none⟩ = (#[.int .i64 mk, .int .i64 ms, .int .i64 md, .int .i64 mt, .int .i64 mi, .int .i64 ml, .int .i64 mc, .bool my, .slice A me.length cap, .string mdt] : Array Value)[i]? := (HM1.out.bel hs2).cells
        have g2 := N2.out.blk.lt
        have f2 := N2.out.blk.free
        have z2 := (HM1.out.bel hs2).lt
        have cells2 : ∀ i, W2.cell? ⟨g, i, none⟩ = (#[.int .i64 id, .slice x.cA conf.length x.cc, .int .i64 term, .int .i64 ms, .int .i64 role, .int .i64 leader, .int .i64 b, .int .i64 bt, .slice x.eA es.length x.ec, .string snap, .int .i64 commit, .int .i64 left, .int .i64 wait, .slice x.vA votes.length x.vc, .slice x.nA next.length x.nc, .slice x.mA mtch.length x.mc, .slice x.oA L.length x.oc] : Array Value)[i]? := N2.out.blk.cells
        clear hW hs2 k0 k1 SX hne
        go_wp2_with fail
        refine (send_calls N2 (by omega) ⟨2, 0, ms, 0, 0, 0, 0, false, [], ByteArray.empty⟩ none 0 (Lib.hid ⟨Nat.le_refl _, RdZ.nil⟩)).mono ?_
        rintro e w3 ⟨rfl, ⟨col3, oA3, oc3, hN3⟩, hb3⟩
        have HN3 := Lib.hid hN3
        have HB3 := Lib.hid hb3
        clear hN3 hb3
        go_wp2_with fail
        go_end0
        rw [HF.out]
        exact ⟨rfl, ⟨col3, { x with oA := oA3, oc := oc3 }, _, rfl, rfl, rfl, HN3.out⟩, (bel_base HB2.out H.out.rest.bs).trans HB3.out⟩
      · have hDb : (vote == ms) = false := by rw [beq_eq_false_iff_ne]; exact hD
        have hDd : decide (vote = ms) = false := decide_eq_false hD
        have HYV : Hid (y = false) := Lib.hid (by rw [HY.out]; simp [hA, hD])
        have HF : Hid (q = (⟨id, conf, term, vote, role, leader, b, bt, es, snap, commit, left, wait, votes, next, mtch⟩, [⟨2, id, ms, term, 0, 0, 0, false, [], ByteArray.empty⟩])) := Lib.hid (by rw [HQ.out, HYV.out]; rfl)
        go_enter Tryz.func20, Tryz.ntmps20
        go_wp2_with fail
        generalize w.alloc (.cells #[.int .i64 mk, .int .i64 ms, .int .i64 md, .int .i64 mt, .int .i64 mi, .int .i64 ml, .int .i64 mc, .bool my, .slice A me.length cap, .string mdt] 30) = w1 at *
        clear hC hgl
        have SX : Sb w1 w1.drew := Below.drew (Below.refl _ _)
        have hne : Nonempty (InS (Sb w1)) := ⟨⟨_, SX⟩⟩
        have k0 : ∀ (z : InS (Sb w1)) i, z.val.cell? ⟨g, i, none⟩ = (#[.int .i64 id, .slice x.cA conf.length x.cc, .int .i64 term, .int .i64 vote, .int .i64 role, .int .i64 leader, .int .i64 b, .int .i64 bt, .slice x.eA es.length x.ec, .string snap, .int .i64 commit, .int .i64 left, .int .i64 wait, .slice x.vA votes.length x.vc, .slice x.nA next.length x.nc, .slice x.mA mtch.length x.mc, .slice x.oA L.length x.oc] : Array Value)[i]? := fun z i => (z.ok.cell (p := ⟨g, i, none⟩) N1.out.blk.lt).trans (N1.out.blk.cells i)
        have k1 : ∀ (z : InS (Sb w1)) i, z.val.cell? ⟨w.heap.size, i, none⟩ = (#[.int .i64 mk, .int .i64 ms, .int .i64 md, .int .i64 mt, .int .i64 mi, .int .i64 ml, .int .i64 mc, .bool my, .slice A me.length cap, .string mdt] : Array Value)[i]? := fun z i => (z.ok.cell (p := ⟨w.heap.size, i, none⟩) HM1.out.lt).trans (HM1.out.cells i)
        refine wp_region_in (Sb w1) (by kernel_rfl) (by kernel_rfl) SX ?_
        repeat (go_big_quiet_step (fail))
        first | refine wpQuiet_nil ?_ | go_big_quiet_step (fail)
        intro W2 hW
        have hs2 := in_ok hW
        have N2 := Lib.hid (N1.out.bel hs2)
        have HB2 := Lib.hid (bel_tr HB1.out hs2)
        have m2 : ∀ i, W2.cell? ⟨w.heap.size, i, none⟩ = (#[.int .i64 mk, .int .i64 ms, .int .i64 md, .int .i64 mt, .int .i64 mi, .int .i64 ml, .int .i64 mc, .bool my, .slice A me.length cap, .string mdt] : Array Value)[i]? := (HM1.out.bel hs2).cells
        have g2 := N2.out.blk.lt
        have f2 := N2.out.blk.free
        have z2 := (HM1.out.bel hs2).lt
        have cells2 : ∀ i, W2.cell? ⟨g, i, none⟩ = (#[.int .i64 id, .slice x.cA conf.length x.cc, .int .i64 term, .int .i64 vote, .int .i64 role, .int .i64 leader, .int .i64 b, .int .i64 bt, .slice x.eA es.length x.ec, .string snap, .int .i64 commit, .int .i64 left, .int .i64 wait, .slice x.vA votes.length x.vc, .slice x.nA next.length x.nc, .slice x.mA mtch.length x.mc, .slice x.oA L.length x.oc] : Array Value)[i]? := N2.out.blk.cells
        clear hW hs2 k0 k1 SX hne
        go_wp2_with fail
        refine (send_calls N2 (by omega) ⟨2, 0, ms, 0, 0, 0, 0, false, [], ByteArray.empty⟩ none 0 (Lib.hid ⟨Nat.le_refl _, RdZ.nil⟩)).mono ?_
        rintro e w3 ⟨rfl, ⟨col3, oA3, oc3, hN3⟩, hb3⟩
        have HN3 := Lib.hid hN3
        have HB3 := Lib.hid hb3
        clear hN3 hb3
        go_wp2_with fail
        go_end0
        rw [HF.out]
        exact ⟨rfl, ⟨col3, { x with oA := oA3, oc := oc3 }, _, rfl, rfl, rfl, HN3.out⟩, (bel_base HB2.out H.out.rest.bs).trans HB3.out⟩
end Go.Proofs.YtdladjgdhnkkcaaGreat
