
/-
  Contract: an answer comes.
  Conditions: the node lies in memory and is right, the message may be.
-/
import Derived.Test.YtdladjgdhnkkcaaGreatZRf15
namespace Go.Proofs.YtdladjgdhnkkcaaGreat
open Go.RowKit
set_option linter.unusedVariables false
set_option linter.unusedSimpArgs false
set_option maxHeartbeats 20000000

theorem cell_in {w1 : World} {p : Addr} {v : Value} (h : w1.cell? p = some v) (z : InS (Sb w1)) : z.val.cell? p = some v := (z.ok.cell (World.block_lt_of_cell? w1 p h)).trans h

set_option maxRecDepth 20000 in
theorem ack_calls {base g : Nat} {col : Nat → Nat} {r : Nod} {x : NdX} {L : List MsgV} {w : World} (H : Hid (Nd 53 base g col r x L w)) (hL : L.length ≤ 800) (hB : Hid (Rf.Base r)) (hR : Hid (r.role = 2 → Rf.Lead r)) (m : Msg) (hT : Hid (Rf.Takes r m)) (A : Option Addr) (cap : Nat) :
    Calls Tryz.prog 22 #[.pointer (some ⟨g, 0, none⟩), msgV m A cap] w (Led 53 base g (Rf.ack r m).1 x L (Rf.ack r m).2 w) := by
  obtain ⟨q, hq⟩ : ∃ q, q = Rf.ack r m := ⟨_, rfl⟩
  rw [← hq]
  have HQ := Lib.hid hq
  unfold Rf.ack at HQ
  have hrim := Tr.chk_rim hB.out.trail
  have hln : Rf.lastN r = r.b + r.es.length := by unfold Rf.lastN; exact Rf.lastN_eq hB.out.trail
  have hi0 := hT.out.i0
  have hi1 := hT.out.i1
  have hlen : r.es.length ≤ 4096 := hrim.2.2.2.2.2.1
  have hb01 : 0 ≤ r.b ∧ r.b + r.es.length ≤ 1099511627776 := ⟨hrim.1, hrim.2.2.2.2.2.2⟩
  have hca := Qm.chk_asc hB.out.conf
  have hn7 : r.conf.length ≤ 7 := hca.2.2
  have hj := Rf.idx_lt hT.out.mem
  clear hq hrim hca
  by_cases hrole : r.role = 2
  · have hld := hR.out hrole
    have hnum := hld.nums _ hj
    obtain ⟨mb, hmA, hgm, hml, hmb, hmc⟩ := H.out.mtch_blk (by have := hld.mtch; omega)
    obtain ⟨nb, hnA, hgn, hnl, hnb, hnc⟩ := H.out.next_blk (by have := hld.next; omega)
    obtain ⟨cb, co, hcA, hcl, _⟩ := H.out.conf_at 0 (by omega)
    have hnL := hld.next
    have hmL := hld.mtch
    have HLD := Lib.hid hld
    have HMEM := Lib.hid hT.out.mem
    clear hld
    obtain ⟨id, conf, term, vote, role, leader, b, bt, es, snap, commit, left, wait, votes, next, mtch⟩ := r
    obtain ⟨mk, ms, md, mt, mi, ml, mc, my, me, mdt⟩ := m
    obtain ⟨cA, cc, eA, ec, vA, vc, nA, nc, mA, mc0, oA, oc⟩ := x
    simp only at hi0 hi1 hlen hb01 hn7 hj hrole hnum hmA hnA hcA hnL hmL hln
    subst hrole; subst hmA; subst hnA; subst hcA
    have HIX := Lib.hid (fun W (hR : Hid (RdI W (some ⟨cb, co, none⟩) conf)) => index2_calls (some ⟨cb, co, none⟩) cc conf ms W hR (by omega) HMEM)
    generalize Rf.idx ms conf = j at *
    obtain ⟨ln, hlnv⟩ : ∃ ln, ln = Rf.lastN (⟨id, conf, term, vote, 2, leader, b, bt, es, snap, commit, left, wait, votes, next, mtch⟩ : Nod) := ⟨_, rfl⟩
    rw [← hlnv] at hln
    have HLN := Lib.hid hlnv
    have HLC := Lib.hid (fun W (h : Hid (Nd 53 base g col ⟨id, conf, term, vote, 2, leader, b, bt, es, snap, commit, left, wait, votes, next, mtch⟩ ⟨some ⟨cb, co, none⟩, cc, eA, ec, vA, vc, some ⟨nb, 0, none⟩, nc, some ⟨mb, 0, none⟩, mc0, oA, oc⟩ L W)) => nlast_calls h hlen)
    rw [← hlnv] at HLC
    have HB1 := Lib.hid (bel_new (Below.refl w.heap.size w) (.cells #[.int .i64 mk, .int .i64 ms, .int .i64 md, .int .i64 mt, .int .i64 mi, .int .i64 ml, .int .i64 mc, .bool my, .slice A me.length cap, .string mdt] 30))
    have N1 := Lib.hid (H.out.bel HB1.out)
    have HM1 := Lib.hid (Blk.new w 30 #[.int .i64 mk, .int .i64 ms, .int .i64 md, .int .i64 mt, .int .i64 mi, .int .i64 ml, .int .i64 mc, .bool my, .slice A me.length cap, .string mdt])
    have HMBG : Hid (w.heap.size ≠ g) := Lib.hid (by have := H.out.blk.lt; omega)
    have j1 : (j : Int) < (mtch.length : Int) := by omega
    have j2 : (j : Int) < (next.length : Int) := by omega
    have HB1b := Lib.hid (bel_base HB1.out H.out.rest.bs)
    clear hlnv
    go_enter Tryz.func22, Tryz.ntmps22
    go_wp2_with fail
    generalize w.alloc (.cells #[.int .i64 mk, .int .i64 ms, .int .i64 md, .int .i64 mt, .int .i64 mi, .int .i64 ml, .int .i64 mc, .bool my, .slice A me.length cap, .string mdt] 30) = w1 at *
    have SX : Sb w1 w1.drew := Below.drew (Below.refl _ _)
    have hne : Nonempty (InS (Sb w1)) := ⟨⟨_, SX⟩⟩
    have k0 : ∀ (z : InS (Sb w1)) i, z.val.cell? ⟨g, i, none⟩ = (#[.int .i64 id, .slice (some ⟨cb, co, none⟩) conf.length cc, .int .i64 term, .int .i64 vote, .int .i64 2, .int .i64 leader, .int .i64 b, .int .i64 bt, .slice eA es.length ec, .string snap, .int .i64 commit, .int .i64 left, .int .i64 wait, .slice vA votes.length vc, .slice (some ⟨nb, 0, none⟩) next.length nc, .slice (some ⟨mb, 0, none⟩) mtch.length mc0, .slice oA L.length oc] : Array Value)[i]? := N1.out.blk.ins
    have k1 : ∀ (z : InS (Sb w1)) i, z.val.cell? ⟨w.heap.size, i, none⟩ = (#[.int .i64 mk, .int .i64 ms, .int .i64 md, .int .i64 mt, .int .i64 mi, .int .i64 ml, .int .i64 mc, .bool my, .slice A me.length cap, .string mdt] : Array Value)[i]? := HM1.out.ins
    refine wp_region_in (Sb w1) (by kernel_rfl) (by kernel_rfl) SX ?_
    repeat (go_big_quiet_step ((first | (go_at_call 60; exact calls_in_bel (fun _ _ h k => bel_tr h k) (HLC.out _ (Lib.hid (N1.out.ins _)))))))
    first | refine wpQuiet_nil ?_ | go_big_quiet_step (fail)
    intro w2 hW
    have hs2 := in_ok hW
    have N2 := Lib.hid (N1.out.bel hs2)
    have HM2 := Lib.hid (HM1.out.bel hs2)
    have HB2 := Lib.hid (HB1b.out.trans (bel_base hs2 N1.out.rest.bs))
    have hcc2 : ∀ i, w2.cell? ⟨g, i, none⟩ = (#[.int .i64 id, .slice (some ⟨cb, co, none⟩) conf.length cc, .int .i64 term, .int .i64 vote, .int .i64 2, .int .i64 leader, .int .i64 b, .int .i64 bt, .slice eA es.length ec, .string snap, .int .i64 commit, .int .i64 left, .int .i64 wait, .slice vA votes.length vc, .slice (some ⟨nb, 0, none⟩) next.length nc, .slice (some ⟨mb, 0, none⟩) mtch.length mc0, .slice oA L.length oc] : Array Value)[i]? := N2.out.blk.cells
    have hmm2 : ∀ i, w2.cell? ⟨w.heap.size, i, none⟩ = (#[.int .i64 mk, .int .i64 ms, .int .i64 md, .int .i64 mt, .int .i64 mi, .int .i64 ml, .int .i64 mc, .bool my, .slice A me.length cap, .string mdt] : Array Value)[i]? := HM2.out.cells
    clear hW hs2 k0 k1 SX hne
    by_cases hbig : ln < mi
    · have HF := Lib.hid (show q = (⟨id, conf, term, vote, 2, leader, b, bt, es, snap, commit, left, wait, votes, next, mtch⟩, []) from by rw [HQ.out, if_pos (.inr (by rw [← HLN.out]; exact hbig))])
      go_wp2_with fail
      go_end0
      rw [HF.out]
      exact ⟨rfl, ⟨col, _, [], rfl, rfl, rfl, by rw [List.append_nil]; exact N2.out⟩, HB2.out⟩
    · have HQ2 := Lib.hid (HQ.out.trans (if_neg (fun h => h.elim (fun h => h rfl) (fun h => hbig (by rw [HLN.out]; exact h)))))
      have hsm : mi ≤ ln := by omega
      go_wp2_with fail
      have HCR := Lib.hid (N2.out.conf_rd.1)
      go_quiet ((go_at_call 61; exact quiet_of_eq (HIX.out _ (Lib.hid (HCR.out.bel (bel_drewN (Below.refl _ _) _))))))
      have N3 := Lib.hid (N2.out.bel (bel_drewN (Below.refl w2.heap.size w2) nq))
      have HM3 := Lib.hid (HM2.out.bel (bel_drewN (Below.refl w2.heap.size w2) nq))
      have HB3 := Lib.hid (HB2.out.trans (bel_base (bel_drewN (Below.refl w2.heap.size w2) nq) N2.out.rest.bs))
      generalize w2.drewN nq = w3 at *
      clear hcc2 hmm2 HCR
      have hmm3 : ∀ i, w3.cell? ⟨w.heap.size, i, none⟩ = (#[.int .i64 mk, .int .i64 ms, .int .i64 md, .int .i64 mt, .int .i64 mi, .int .i64 ml, .int .i64 mc, .bool my, .slice A me.length cap, .string mdt] : Array Value)[i]? := HM3.out.cells
      obtain ⟨hmc1, hmc2⟩ := N3.out.mtch_cell rfl j (show j < mtch.length by omega)
      obtain ⟨hnc1, hnc2⟩ := N3.out.next_cell rfl j (show j < next.length by omega)
      simp only at hmc1 hnc1
      obtain ⟨mx, hmx⟩ : ∃ mx, mx = mtch.getD j 0 := ⟨_, rfl⟩
      obtain ⟨nx, hnx⟩ : ∃ nx, nx = next.getD j 0 := ⟨_, rfl⟩
      rw [← hmx] at hmc1 hnum
      rw [← hnx] at hnc1 hnum
      rw [← hln] at hnum
      have HMX := Lib.hid hmx
      have HNX := Lib.hid hnx
      have hw1 : IntKind.i64.wrap (mi + 1) = mi + 1 := IntWalk.i64_in _ (by omega)
      have hw2 : IntKind.i64.wrap (nx - 1) = nx - 1 := IntWalk.i64_in _ (by omega)
      have hw3 : IntKind.i64.wrap (mx + 1) = mx + 1 := IntWalk.i64_in _ (by omega)
      have SX : Sb w3 w3.drew := Below.drew (Below.refl _ _)
      have hne : Nonempty (InS (Sb w3)) := ⟨⟨_, SX⟩⟩
      have k0 : ∀ (z : InS (Sb w3)) i, z.val.cell? ⟨g, i, none⟩ = (#[.int .i64 id, .slice (some ⟨cb, co, none⟩) conf.length cc, .int .i64 term, .int .i64 vote, .int .i64 2, .int .i64 leader, .int .i64 b, .int .i64 bt, .slice eA es.length ec, .string snap, .int .i64 commit, .int .i64 left, .int .i64 wait, .slice vA votes.length vc, .slice (some ⟨nb, 0, none⟩) next.length nc, .slice (some ⟨mb, 0, none⟩) mtch.length mc0, .slice oA L.length oc] : Array Value)[i]? := N3.out.blk.ins
      have k1 : ∀ (z : InS (Sb w3)) i, z.val.cell? ⟨w.heap.size, i, none⟩ = (#[.int .i64 mk, .int .i64 ms, .int .i64 md, .int .i64 mt, .int .i64 mi, .int .i64 ml, .int .i64 mc, .bool my, .slice A me.length cap, .string mdt] : Array Value)[i]? := HM3.out.ins
      have k2 : ∀ (z : InS (Sb w3)), z.val.cell? ⟨mb, j, none⟩ = some (.int .i64 mx) := cell_in hmc1
      have k3 : ∀ (z : InS (Sb w3)), z.val.cell? ⟨nb, j, none⟩ = some (.int .i64 nx) := cell_in hnc1
      have HFX : Hid (∀ i, i < conf.length → next.getD i 0 ≤ 9223372036854775807) := Lib.hid (fun i hi => by have := (HLD.out.nums i hi).2.2.2; simp only at this; omega)
      clear hmx hnx hmc1 hnc1 hmc2 hnc2
      cases my with
      | false =>
        obtain ⟨nv, hnv⟩ : ∃ nv, nv = max (min (mi + 1) (nx - 1)) (mx + 1) := ⟨_, rfl⟩
        have HNV := Lib.hid hnv
        have HF := Lib.hid (show q = (⟨id, conf, term, vote, 2, leader, b, bt, es, snap, commit, left, wait, votes, next.set j nv, mtch⟩, [Rf.push ⟨id, conf, term, vote, 2, leader, b, bt, es, snap, commit, left, wait, votes, next.set j nv, mtch⟩ j]) from by rw [HQ2.out, hnv, HMX.out, HNX.out]; rfl)
        have hnvb : nv ≤ 9223372036854775807 := by rw [hnv]; omega
        clear hnv
        go_wp2_with fail
        refine wp_region_tail_in 30 (Sb w3) (by kernel_rfl) (by kernel_rfl) SX ?_
        simp only [List.take_succ_cons, List.take_zero, List.drop_succ_cons, List.drop_zero]
        repeat (go_big_quiet_step (fail))
        first | refine wpQuiet_nil ?_ | go_big_quiet_step (fail)
        intro w4 hW
        have hs9 := in_ok hW
        have N4 := Lib.hid (N3.out.bel hs9)
        have HB4 := Lib.hid (HB3.out.trans (bel_base hs9 N3.out.rest.bs))
        obtain ⟨n1, n2⟩ := N4.out.next_cell rfl j (show j < next.length by omega)
        simp only at n1
        clear hW hs9 k0 k1 k2 k3 SX hne
        go_wp2_with fail
        try rw [show max (min (mi + 1) (nx - 1)) (mx + 1) = nv from HNV.out.symm]
        have N5 := Lib.hid (N4.out.next_set rfl j (show j < next.length by omega) nv)
        have HB5 := Lib.hid (HB4.out.setCell (p := ⟨nb, j, none⟩) hnb (.int .i64 nv))
        refine (push_calls N5 (by omega) j (show j < conf.length by omega) hn7 (by simp only [List.length_set]; omega) hb01.1 hlen (by simp only; rw [Rf.set_get _ _ _ _ (by omega), if_pos rfl]; exact hnvb)).mono ?_
        intro e w6 hp
        have HP := Lib.hid hp
        obtain ⟨_, _, rfl, _, _⟩ := hp
        go_wp2_with fail
        go_end0
        rw [HF.out]
        obtain ⟨A6, c6, _, ⟨col6, oA6, oc6, hN6⟩, hb6⟩ := HP.out
        exact ⟨rfl, ⟨col6, ⟨some ⟨cb, co, none⟩, cc, eA, ec, vA, vc, some ⟨nb, 0, none⟩, nc, some ⟨mb, 0, none⟩, mc0, oA6, oc6⟩, [⟨_, A6, c6⟩], rfl, rfl, rfl, hN6⟩, HB5.out.trans hb6⟩
      | true =>
        obtain ⟨v1, hv1⟩ : ∃ v1, v1 = max mx mi := ⟨_, rfl⟩
        have HV1 := Lib.hid hv1
        have hv1b : 0 ≤ v1 ∧ v1 ≤ 1099511627776 := by rw [hv1]; omega
        have hq3 : q = (Rf.agree ⟨id, conf, term, vote, 2, leader, b, bt, es, snap, commit, left, wait, votes, next.set j (v1 + 1), mtch.set j v1⟩, if v1 + 1 ≤ ln then [Rf.push (Rf.agree ⟨id, conf, term, vote, 2, leader, b, bt, es, snap, commit, left, wait, votes, next.set j (v1 + 1), mtch.set j v1⟩) j] else []) := by
          have e0 : Rf.ack1 (⟨id, conf, term, vote, 2, leader, b, bt, es, snap, commit, left, wait, votes, next, mtch⟩ : Nod) ⟨mk, ms, md, mt, mi, ml, mc, true, me, mdt⟩ j = ⟨id, conf, term, vote, 2, leader, b, bt, es, snap, commit, left, wait, votes, next.set j (v1 + 1), mtch.set j v1⟩ := by rw [hv1, HMX.out]; rfl
          rw [HQ2.out]
          simp only [if_true]
          rw [e0, ← HLN.out]
          simp only
          rw [Rf.set_get _ _ _ _ (by omega), if_pos rfl]
        have HQ3 := Lib.hid hq3
        have hw4 : IntKind.i64.wrap (v1 + 1) = v1 + 1 := IntWalk.i64_in _ (by omega)
        clear hv1 hq3
        go_wp2_with fail
        refine wp_region_tail_in 18 (Sb w3) (by kernel_rfl) (by kernel_rfl) SX ?_
        simp only [List.take_succ_cons, List.take_zero, List.drop_succ_cons, List.drop_zero]
        repeat (go_big_quiet_step (fail))
        first | refine wpQuiet_nil ?_ | go_big_quiet_step (fail)
        intro w4 hW
        have hs9 := in_ok hW
        have N4 := Lib.hid (N3.out.bel hs9)
        have HB4 := Lib.hid (HB3.out.trans (bel_base hs9 N3.out.rest.bs))
        obtain ⟨n1, n2⟩ := N4.out.mtch_cell rfl j (show j < mtch.length by omega)
        simp only at n1
        clear hW hs9 k0 k1 k2 k3 SX hne
        go_wp2_with fail
        try rw [show max mx mi = v1 from HV1.out.symm]
        have N5 : Hid (Nd 53 base g col ⟨id, conf, term, vote, 2, leader, b, bt, es, snap, commit, left, wait, votes, next, mtch.set j v1⟩ ⟨some ⟨cb, co, none⟩, cc, eA, ec, vA, vc, some ⟨nb, 0, none⟩, nc, some ⟨mb, 0, none⟩, mc0, oA, oc⟩ L _) := Lib.hid (N4.out.mtch_set rfl j (show j < mtch.length by omega) v1)
        have HB5 := Lib.hid (HB4.out.setCell (p := ⟨mb, j, none⟩) hmb (.int .i64 v1))
        clear n1 n2
        generalize w4.setCell ⟨mb, j, none⟩ (.int .i64 v1) = w5 at *
        have SX : Sb w5 w5.drew := Below.drew (Below.refl _ _)
        have hne : Nonempty (InS (Sb w5)) := ⟨⟨_, SX⟩⟩
        have k0 : ∀ (z : InS (Sb w5)) i, z.val.cell? ⟨g, i, none⟩ = (#[.int .i64 id, .slice (some ⟨cb, co, none⟩) conf.length cc, .int .i64 term, .int .i64 vote, .int .i64 2, .int .i64 leader, .int .i64 b, .int .i64 bt, .slice eA es.length ec, .string snap, .int .i64 commit, .int .i64 left, .int .i64 wait, .slice vA votes.length vc, .slice (some ⟨nb, 0, none⟩) next.length nc, .slice (some ⟨mb, 0, none⟩) mtch.length mc0, .slice oA L.length oc] : Array Value)[i]? := fun z i => by have := N5.out.blk.ins z i; simpa only [nodeC, List.length_set] using this
        have k2 : ∀ (z : InS (Sb w5)), z.val.cell? ⟨mb, j, none⟩ = some (.int .i64 v1) := fun z => by
          have := (N5.out.mtch_cell rfl j (by simp only [List.length_set]; omega)).1
          simp only at this
          rw [Rf.set_get _ _ _ _ (by omega), if_pos rfl] at this
          exact cell_in this z
        refine wp_region_tail_in 16 (Sb w5) (by kernel_rfl) (by kernel_rfl) SX ?_
        simp only [List.take_succ_cons, List.take_zero, List.drop_succ_cons, List.drop_zero]
        repeat (go_big_quiet_step (fail))
        first | refine wpQuiet_nil ?_ | go_big_quiet_step (fail)
        intro w6 hW
        have hs9 := in_ok hW
        have N6 := Lib.hid (N5.out.bel hs9)
        have HB6 := Lib.hid (HB5.out.trans (bel_base hs9 N5.out.rest.bs))
        obtain ⟨n1, n2⟩ := N6.out.next_cell rfl j (show j < next.length by omega)
        simp only at n1
        clear hW hs9 k0 k2 SX hne
        go_wp2_with fail
        have N7 : Hid (Nd 53 base g col ⟨id, conf, term, vote, 2, leader, b, bt, es, snap, commit, left, wait, votes, next.set j (v1 + 1), mtch.set j v1⟩ ⟨some ⟨cb, co, none⟩, cc, eA, ec, vA, vc, some ⟨nb, 0, none⟩, nc, some ⟨mb, 0, none⟩, mc0, oA, oc⟩ L _) := Lib.hid (N6.out.next_set rfl j (show j < next.length by omega) (v1 + 1))
        have HB7 := Lib.hid (HB6.out.setCell (p := ⟨nb, j, none⟩) hnb (.int .i64 (v1 + 1)))
        have hB7 : Hid (Rf.Base (⟨id, conf, term, vote, 2, leader, b, bt, es, snap, commit, left, wait, votes, next.set j (v1 + 1), mtch.set j v1⟩ : Nod)) := Lib.hid { hB.out with }
        clear n1 n2
        refine (agree_calls N7 (show 0 < conf.length by omega) hn7 (by simp only [List.length_set]; omega) hlen).mono ?_
        rintro e w8 ⟨rfl, ⟨col8, hN8⟩, hb8⟩
        obtain ⟨cm, hag, hc1, hc2⟩ := Rf.agree_eq hB7.out
        have HAG := Lib.hid hag
        rw [hag] at hN8
        have N8 : Hid (Nd 53 base g col8 ⟨id, conf, term, vote, 2, leader, b, bt, es, snap, cm, left, wait, votes, next.set j (v1 + 1), mtch.set j v1⟩ ⟨some ⟨cb, co, none⟩, cc, eA, ec, vA, vc, some ⟨nb, 0, none⟩, nc, some ⟨mb, 0, none⟩, mc0, oA, oc⟩ L w8) := Lib.hid hN8
        have HB8 := Lib.hid (HB7.out.trans hb8)
        have HLC8 := Lib.hid (fun W (h : Hid (Nd 53 base g col8 ⟨id, conf, term, vote, 2, leader, b, bt, es, snap, cm, left, wait, votes, next.set j (v1 + 1), mtch.set j v1⟩ ⟨some ⟨cb, co, none⟩, cc, eA, ec, vA, vc, some ⟨nb, 0, none⟩, nc, some ⟨mb, 0, none⟩, mc0, oA, oc⟩ L W)) => nlast_calls h hlen)
        rw [show Rf.lastN (⟨id, conf, term, vote, 2, leader, b, bt, es, snap, cm, left, wait, votes, next.set j (v1 + 1), mtch.set j v1⟩ : Nod) = ln from HLN.out.symm] at HLC8
        clear hag hN8 hb8 hc1 hc2
        go_wp2_with fail
        have SX : Sb w8 w8.drew := Below.drew (Below.refl _ _)
        have hne : Nonempty (InS (Sb w8)) := ⟨⟨_, SX⟩⟩
        have k0 : ∀ (z : InS (Sb w8)) i, z.val.cell? ⟨g, i, none⟩ = (#[.int .i64 id, .slice (some ⟨cb, co, none⟩) conf.length cc, .int .i64 term, .int .i64 vote, .int .i64 2, .int .i64 leader, .int .i64 b, .int .i64 bt, .slice eA es.length ec, .string snap, .int .i64 cm, .int .i64 left, .int .i64 wait, .slice vA votes.length vc, .slice (some ⟨nb, 0, none⟩) next.length nc, .slice (some ⟨mb, 0, none⟩) mtch.length mc0, .slice oA L.length oc] : Array Value)[i]? := fun z i => by have := N8.out.blk.ins z i; simpa only [nodeC, List.length_set] using this
        have k2 : ∀ (z : InS (Sb w8)), z.val.cell? ⟨nb, j, none⟩ = some (.int .i64 (v1 + 1)) := fun z => by
          have := (N8.out.next_cell rfl j (by simp only [List.length_set]; omega)).1
          simp only at this
          rw [Rf.set_get _ _ _ _ (by omega), if_pos rfl] at this
          exact cell_in this z
        refine wp_region_in (Sb w8) (by kernel_rfl) (by kernel_rfl) SX ?_
        repeat (go_big_quiet_step ((first | (go_at_call 60; exact calls_in_bel (fun _ _ h k => bel_tr h k) (HLC8.out _ (Lib.hid (N8.out.ins _)))))))
        first | refine wpQuiet_nil ?_ | go_big_quiet_step (fail)
        intro w9 hW
        have hs9 := in_ok hW
        have N9 := Lib.hid (N8.out.bel hs9)
        have HB9 := Lib.hid (HB8.out.trans (bel_base hs9 N8.out.rest.bs))
        clear hW hs9 k0 k2 SX hne
        by_cases hle : v1 + 1 ≤ ln
        · have HF := Lib.hid (show q = (⟨id, conf, term, vote, 2, leader, b, bt, es, snap, cm, left, wait, votes, next.set j (v1 + 1), mtch.set j v1⟩, [Rf.push ⟨id, conf, term, vote, 2, leader, b, bt, es, snap, cm, left, wait, votes, next.set j (v1 + 1), mtch.set j v1⟩ j]) from by rw [HQ3.out, if_pos hle, HAG.out])
          go_wp2_with fail
          refine (push_calls N9 (by omega) j (show j < conf.length by omega) hn7 (by simp only [List.length_set]; omega) hb01.1 hlen (by simp only; rw [Rf.set_get _ _ _ _ (by omega), if_pos rfl]; omega)).mono ?_
          intro e w10 hp
          have HP := Lib.hid hp
          obtain ⟨_, _, rfl, _, _⟩ := hp
          go_wp2_with fail
          go_end0
          rw [HF.out]
          obtain ⟨A6, c6, _, ⟨col6, oA6, oc6, hN6⟩, hb6⟩ := HP.out
          exact ⟨rfl, ⟨col6, ⟨some ⟨cb, co, none⟩, cc, eA, ec, vA, vc, some ⟨nb, 0, none⟩, nc, some ⟨mb, 0, none⟩, mc0, oA6, oc6⟩, [⟨_, A6, c6⟩], rfl, rfl, rfl, hN6⟩, HB9.out.trans hb6⟩
        · have HF := Lib.hid (show q = (⟨id, conf, term, vote, 2, leader, b, bt, es, snap, cm, left, wait, votes, next.set j (v1 + 1), mtch.set j v1⟩, []) from by rw [HQ3.out, if_neg hle, HAG.out])
          go_wp2_with fail
          go_end0
          rw [HF.out]
          exact ⟨rfl, ⟨col8, _, [], rfl, rfl, rfl, by rw [List.append_nil]; exact N9.out⟩, HB9.out⟩
  · obtain ⟨id, conf, term, vote, role, leader, b, bt, es, snap, commit, left, wait, votes, next, mtch⟩ := r
    obtain ⟨mk, ms, md, mt, mi, ml, mc, my, me, mdt⟩ := m
    simp only at hrole
    have hrb : (role != 2) = true := by rw [bne_iff_ne]; exact hrole
    have HF := Lib.hid (show q = (⟨id, conf, term, vote, role, leader, b, bt, es, snap, commit, left, wait, votes, next, mtch⟩, []) from by rw [HQ.out, if_pos (.inl hrole)])
    have hC := H.out.blk.cells
    dsimp only [nodeC] at hC
    have hgl := H.out.blk.lt
    have HB1 := Lib.hid (bel_new (Below.refl w.heap.size w) (.cells #[.int .i64 mk, .int .i64 ms, .int .i64 md, .int .i64 mt, .int .i64 mi, .int .i64 ml, .int .i64 mc, .bool my, .slice A me.length cap, .string mdt] 30))
    have N1 := Lib.hid (H.out.bel HB1.out)
    have HBS := Lib.hid H.out.rest.bs
    clear hrole
    go_enter Tryz.func22, Tryz.ntmps22
    go_wp2_with fail
    go_quiet (fail)
    go_wp2_with fail
    go_end0
    rw [HF.out]
    exact ⟨rfl, ⟨col, x, [], rfl, rfl, rfl, by rw [List.append_nil]; exact N1.out.bel (bel_drewN (Below.refl _ _) nq)⟩, bel_base (bel_drewN HB1.out nq) HBS.out⟩
end Go.Proofs.YtdladjgdhnkkcaaGreat
