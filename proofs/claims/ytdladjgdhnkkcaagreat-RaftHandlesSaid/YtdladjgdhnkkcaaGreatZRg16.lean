
/-
  Contract of the reference of layer 14: an answer comes to a leader.
  Conditions: the node lies in memory and is right, it takes the message.
-/
import Derived.Test.YtdladjgdhnkkcaaGreatZRf15ToRf13
import Derived.Test.YtdladjgdhnkkcaaGreatZRg10ToRg12
namespace Go.Proofs.YtdladjgdhnkkcaaGreat
open Go.RowKit
set_option linter.unusedVariables false
set_option linter.unusedSimpArgs false
set_option maxHeartbeats 4000000

theorem set_self (l : List Int) (j : Nat) (h : j < l.length) : l.set j (l.getD j 0) = l := by
  rw [show l.getD j 0 = l[j] from by simp [List.getD, h]]
  exact List.set_getElem_self h
set_option maxRecDepth 20000 in
theorem acked_calls {base g : Nat} {col : Nat → Nat} {r : Nod} {x : NdX} {L : List MsgV} {w : World} (H : Hid (Nd 36 base g col r x L w)) (hL : L.length ≤ 800) (hB : Hid (Rf.Base r)) (hrole : r.role = 2) (hld : Rf.Lead r) (m : Msg) (hT : Hid (Rf.Takes r m)) (A : Option Addr) (cap : Nat) :
    Calls Tryz.prog 32 #[.pointer (some ⟨g, 0, none⟩), msgV m A cap] w (Led 36 base g (Rf.ack r m).1 x L (Rf.ack r m).2 w) := by
  obtain ⟨q, hq⟩ : ∃ q, q = Rf.ack r m := ⟨_, rfl⟩
  rw [← hq]
  have HQ := Lib.hid hq
  unfold Rf.ack at HQ
  have hrim := Tr.chk_rim hB.out.trail
  have hln0 : Rf.lastN r = r.b + r.es.length := by unfold Rf.lastN; exact Rf.lastN_eq hB.out.trail
  have hi0 := hT.out.i0
  have hi1 := hT.out.i1
  have hlen : r.es.length ≤ 4096 := hrim.2.2.2.2.2.1
  have hb01 : 0 ≤ r.b ∧ r.b + r.es.length ≤ 1099511627776 := ⟨hrim.1, hrim.2.2.2.2.2.2⟩
  have hca := Qm.chk_asc hB.out.conf
  have hn7 : r.conf.length ≤ 7 := hca.2.2
  have hj := Rf.idx_lt hT.out.mem
  clear hq hrim hca
  have hnum := hld.nums _ hj
  obtain ⟨mb, hmA, hgm, hml, hmb, hmc⟩ := H.out.mtch_blk (by have := hld.mtch; omega)
  obtain ⟨nb, hnA, hgn, hnl, hnb, hnc⟩ := H.out.next_blk (by have := hld.next; omega)
  obtain ⟨cb, co, hcA, hcl, _⟩ := H.out.conf_at 0 (by omega)
  have hnL := hld.next
  have hmL := hld.mtch
  have HLD := Lib.hid hld
  have HMEM := Lib.hid hT.out.mem
  clear hld
  obtain ⟨id, conf, term, vote, role, leader, b, bt, es, snap, commit, left, wait, votes, next, mtch⟩ := r
  obtain ⟨mk, ms, md, mt, mi, ml, mc, my, me, mdt⟩ := m
  obtain ⟨cA, cc, eA, ec, vA, vc, nA, nc, mA, mc0, oA, oc⟩ := x
  simp only at hi0 hi1 hlen hb01 hn7 hj hrole hnum hmA hnA hcA hnL hmL hln0
  subst hrole; subst hmA; subst hnA; subst hcA
  have HPL := Lib.hid (fun (W : World) (h : Hid (RdI W (some ⟨cb, co, none⟩) conf)) => place_calls ⟨id, conf, term, vote, 2, leader, b, bt, es, snap, commit, left, wait, votes, next, mtch⟩ ⟨some ⟨cb, co, none⟩, cc, eA, ec, vA, vc, some ⟨nb, 0, none⟩, nc, some ⟨mb, 0, none⟩, mc0, oA, oc⟩ ms W h (by show conf.length ≤ _; omega) HMEM)
  simp only at HPL
  generalize Rf.idx ms conf = j at *
  obtain ⟨ln, hlnv⟩ : ∃ ln, ln = Tr.lastN b bt es := ⟨_, rfl⟩
  have HLN : Hid (ln = Rf.lastN (⟨id, conf, term, vote, 2, leader, b, bt, es, snap, commit, left, wait, votes, next, mtch⟩ : Nod)) := Lib.hid hlnv
  have hln : ln = b + es.length := by rw [HLN.out]; exact hln0
  have HB1 := Lib.hid (bel_new (Below.refl w.heap.size w) (.cells #[.int .i64 mk, .int .i64 ms, .int .i64 md, .int .i64 mt, .int .i64 mi, .int .i64 ml, .int .i64 mc, .bool my, .slice A me.length cap, .string mdt] 30))
  have N1 := Lib.hid (H.out.bel HB1.out)
  have HM1 := Lib.hid (Blk.new w 30 #[.int .i64 mk, .int .i64 ms, .int .i64 md, .int .i64 mt, .int .i64 mi, .int .i64 ml, .int .i64 mc, .bool my, .slice A me.length cap, .string mdt])
  have HLC := Lib.hid (fun (W : World) (hb : Below w.heap.size w W) => rlast2_calls b bt eA ec es W (H.out.bel hb).rest.es.rd (by omega))
  rw [← hlnv] at HLC
  have j1 : (j : Int) < (mtch.length : Int) := by omega
  have j2 : (j : Int) < (next.length : Int) := by omega
  have HB1b := Lib.hid (bel_base HB1.out H.out.rest.bs)
  have HGM := Lib.hid hgm
  have HGN := Lib.hid hgn
  have HNB := Lib.hid hnb
  have HMB := Lib.hid hmb
  have HNL := Lib.hid hnl
  clear hlnv hgm hgn hnb hmb hnl hml hcl hln0 hnc hmc
  go_enter Tryz.func32, Tryz.ntmps32
  go_upto_region 1 with (fail)
  generalize w.alloc (.cells #[.int .i64 mk, .int .i64 ms, .int .i64 md, .int .i64 mt, .int .i64 mi, .int .i64 ml, .int .i64 mc, .bool my, .slice A me.length cap, .string mdt] 30) = w1 at *
  have hcc1 : ∀ i, w1.cell? ⟨g, i, none⟩ = (#[.int .i64 id, .slice (some ⟨cb, co, none⟩) conf.length cc, .int .i64 term, .int .i64 vote, .int .i64 2, .int .i64 leader, .int .i64 b, .int .i64 bt, .slice eA es.length ec, .string snap, .int .i64 commit, .int .i64 left, .int .i64 wait, .slice vA votes.length vc, .slice (some ⟨nb, 0, none⟩) next.length nc, .slice (some ⟨mb, 0, none⟩) mtch.length mc0, .slice oA L.length oc] : Array Value)[i]? := N1.out.blk.cells
  go_wp2_with fail
  refine (HLC.out w1 HB1.out).mono ?_
  rintro e w2 ⟨rfl, hb2⟩
  have N2 := Lib.hid (N1.out.bel hb2)
  have HM2 := Lib.hid (HM1.out.bel hb2)
  have HB2 := Lib.hid (HB1b.out.trans (bel_base hb2 N1.out.rest.bs))
  clear hcc1 hb2 HLC N1 HM1 HB1 HB1b
  have hmm2 : ∀ i, w2.cell? ⟨w.heap.size, i, none⟩ = (#[.int .i64 mk, .int .i64 ms, .int .i64 md, .int .i64 mt, .int .i64 mi, .int .i64 ml, .int .i64 mc, .bool my, .slice A me.length cap, .string mdt] : Array Value)[i]? := HM2.out.cells
  by_cases hbig : ln < mi
  · have HF := Lib.hid (show q = (⟨id, conf, term, vote, 2, leader, b, bt, es, snap, commit, left, wait, votes, next, mtch⟩, []) from by rw [HQ.out, if_pos (.inr (by rw [← HLN.out]; exact hbig))])
    go_wp2_with fail
    go_end0
    rw [HF.out]
    exact ⟨rfl, ⟨col, _, [], rfl, rfl, rfl, by rw [List.append_nil]; exact N2.out⟩, HB2.out⟩
  · have HQ2 := Lib.hid (HQ.out.trans (if_neg (fun h => h.elim (fun h => h rfl) (fun h => hbig (by rw [HLN.out]; exact h)))))
    have hsm : mi ≤ ln := by omega
    go_upto_region 3 with (fail)
    have SX : Sb w2 w2.drew := Below.drew (Below.refl _ _)
    have hne : Nonempty (InS (Sb w2)) := ⟨⟨_, SX⟩⟩
    have k1 : ∀ (z : InS (Sb w2)) i, z.val.cell? ⟨w.heap.size, i, none⟩ = (#[.int .i64 mk, .int .i64 ms, .int .i64 md, .int .i64 mt, .int .i64 mi, .int .i64 ml, .int .i64 mc, .bool my, .slice A me.length cap, .string mdt] : Array Value)[i]? := HM2.out.ins
    refine wp_region_in (Sb w2) (by kernel_rfl) (by kernel_rfl) SX ?_
    iterate 3 (go_big_quiet_step (fail))
    refine wpQuiet_loadP (C := fun w' => ∃ z : InS (Sb w2), w' = z.val) rfl 28 (.tmp 23) rfl g rfl (raftL ⟨id, conf, term, vote, 2, leader, b, bt, es, snap, commit, left, wait, votes, next, mtch⟩ ⟨some ⟨cb, co, none⟩, cc, eA, ec, vA, vc, some ⟨nb, 0, none⟩, nc, some ⟨mb, 0, none⟩, mc0, oA, oc⟩) (fun W hW => by obtain ⟨z, rfl⟩ := hW; exact ⟨_, _, (N2.out.ins z).blk, rfl⟩) Tryz.underlying28 infoR ?_
    simp only [Act.put, List.setIfInBounds_toArray, List.set_cons_succ, List.set_cons_zero]
    repeat (go_big_quiet_step ((go_at_call 76; exact calls_in_bel (fun _ _ h k => bel_tr h k) (HPL.out _ (Lib.hid (N2.out.ins _).rest.conf.rd.2.1)))))
    first | refine wpQuiet_nil ?_ | go_big_quiet_step (fail)
    intro w3 hW
    have hs2 := in_ok hW
    have N3 := Lib.hid (N2.out.bel hs2)
    have HM3 := Lib.hid (HM2.out.bel hs2)
    have HB3 := Lib.hid (HB2.out.trans (bel_base hs2 N2.out.rest.bs))
    clear hW hs2 k1 SX hne hmm2 N2 HM2 HB2 HPL
    have hmm3 : ∀ i, w3.cell? ⟨w.heap.size, i, none⟩ = (#[.int .i64 mk, .int .i64 ms, .int .i64 md, .int .i64 mt, .int .i64 mi, .int .i64 ml, .int .i64 mc, .bool my, .slice A me.length cap, .string mdt] : Array Value)[i]? := HM3.out.cells
    have hcc3 : ∀ i, w3.cell? ⟨g, i, none⟩ = (#[.int .i64 id, .slice (some ⟨cb, co, none⟩) conf.length cc, .int .i64 term, .int .i64 vote, .int .i64 2, .int .i64 leader, .int .i64 b, .int .i64 bt, .slice eA es.length ec, .string snap, .int .i64 commit, .int .i64 left, .int .i64 wait, .slice vA votes.length vc, .slice (some ⟨nb, 0, none⟩) next.length nc, .slice (some ⟨mb, 0, none⟩) mtch.length mc0, .slice oA L.length oc] : Array Value)[i]? := N3.out.blk.cells
    obtain ⟨hmc1, hmc2⟩ := N3.out.mtch_cell rfl j (show j < mtch.length by omega)
    obtain ⟨hnc1, hnc2⟩ := N3.out.next_cell rfl j (show j < next.length by omega)
    simp only at hmc1 hnc1
    obtain ⟨mx, hmx⟩ : ∃ mx, mx = mtch.getD j 0 := ⟨_, rfl⟩
    obtain ⟨nx, hnx⟩ : ∃ nx, nx = next.getD j 0 := ⟨_, rfl⟩
    rw [← hmx] at hmc1 hnum
    rw [← hnx] at hnc1 hnum
    have HMX := Lib.hid hmx
    have HNX := Lib.hid hnx
    have hnum2 : 0 ≤ mx ∧ mx ≤ ln ∧ mx < nx ∧ nx ≤ ln + 1 := by have := hnum; (try simp only at this); omega
    have hw1 : IntKind.i64.wrap (mi + 1) = mi + 1 := IntWalk.i64_in _ (by omega)
    have hw2 : IntKind.i64.wrap (nx - 1) = nx - 1 := IntWalk.i64_in _ (by omega)
    have hw3 : IntKind.i64.wrap (mx + 1) = mx + 1 := IntWalk.i64_in _ (by omega)
    have HFX : Hid (∀ i, i < conf.length → next.getD i 0 ≤ 9223372036854775807) := Lib.hid (fun i hi => by have h1 := (HLD.out.nums i hi).2.2.2; have h2 := HLN.out; simp only at h1 h2; omega)
    have HNUM := Lib.hid hnum2
    clear hmx hnx hnum hnum2
    cases my with
    | false =>
      have HNUM2 := HNUM.out
      by_cases c1 : mi + 1 < nx - 1
      · by_cases c2 : mi + 1 < mx + 1
        · clear HNUM2
          have HF := Lib.hid (show q = (⟨id, conf, term, vote, 2, leader, b, bt, es, snap, commit, left, wait, votes, next.set j (mx + 1), mtch⟩, [Rf.push ⟨id, conf, term, vote, 2, leader, b, bt, es, snap, commit, left, wait, votes, next.set j (mx + 1), mtch⟩ j]) from by
            rw [HQ2.out]
            show (Rf.nack1 ⟨id, conf, term, vote, 2, leader, b, bt, es, snap, commit, left, wait, votes, next, mtch⟩ _ j, [Rf.push (Rf.nack1 ⟨id, conf, term, vote, 2, leader, b, bt, es, snap, commit, left, wait, votes, next, mtch⟩ _ j) j]) = _
            have e : Rf.nack1 (⟨id, conf, term, vote, 2, leader, b, bt, es, snap, commit, left, wait, votes, next, mtch⟩ : Nod) ⟨mk, ms, md, mt, mi, ml, mc, false, me, mdt⟩ j = ⟨id, conf, term, vote, 2, leader, b, bt, es, snap, commit, left, wait, votes, next.set j (mx + 1), mtch⟩ := by
              have e2 : max (min (mi + 1) (next.getD j 0 - 1)) (mtch.getD j 0 + 1) = mx + 1 := by rw [← HMX.out, ← HNX.out]; omega
              unfold Rf.nack1
              simp only
              rw [e2]
            rw [e])
          have hnvb : mx + 1 ≤ 9223372036854775807 := by have := HNUM.out; omega
          go_upto_region 17 with (fail)
          have N5 := Lib.hid (N3.out.next_set rfl j (show j < next.length by omega) (mx + 1))
          have HB5 := Lib.hid (HB3.out.setCell (p := ⟨nb, j, none⟩) HNB.out (.int .i64 (mx + 1)))
          generalize w3.setCell ⟨nb, j, none⟩ (.int .i64 (mx + 1)) = w5 at *
          clear hmm3 hcc3 hmc1 hmc2 hnc1 hnc2 N3 HB3
          go_wp2_with fail
          refine (rpush_calls N5 (by omega) j (show j < conf.length by omega) hn7 (by simp only [List.length_set]; omega) hb01.1 hlen (by simp only; rw [Rf.set_get _ _ _ _ (by omega), if_pos rfl]; exact hnvb)).mono ?_
          intro e w6 hp
          have HP := Lib.hid hp
          obtain ⟨_, _, rfl, _, _⟩ := hp
          go_wp2_with fail
          go_end0
          rw [HF.out]
          obtain ⟨A6, c6, _, ⟨col6, oA6, oc6, hN6⟩, hb6⟩ := HP.out
          exact ⟨rfl, ⟨col6, ⟨some ⟨cb, co, none⟩, cc, eA, ec, vA, vc, some ⟨nb, 0, none⟩, nc, some ⟨mb, 0, none⟩, mc0, oA6, oc6⟩, [⟨_, A6, c6⟩], rfl, rfl, rfl, hN6⟩, HB5.out.trans hb6⟩
        · clear HNUM2
          have HF := Lib.hid (show q = (⟨id, conf, term, vote, 2, leader, b, bt, es, snap, commit, left, wait, votes, next.set j (mi + 1), mtch⟩, [Rf.push ⟨id, conf, term, vote, 2, leader, b, bt, es, snap, commit, left, wait, votes, next.set j (mi + 1), mtch⟩ j]) from by
            rw [HQ2.out]
            show (Rf.nack1 ⟨id, conf, term, vote, 2, leader, b, bt, es, snap, commit, left, wait, votes, next, mtch⟩ _ j, [Rf.push (Rf.nack1 ⟨id, conf, term, vote, 2, leader, b, bt, es, snap, commit, left, wait, votes, next, mtch⟩ _ j) j]) = _
            have e : Rf.nack1 (⟨id, conf, term, vote, 2, leader, b, bt, es, snap, commit, left, wait, votes, next, mtch⟩ : Nod) ⟨mk, ms, md, mt, mi, ml, mc, false, me, mdt⟩ j = ⟨id, conf, term, vote, 2, leader, b, bt, es, snap, commit, left, wait, votes, next.set j (mi + 1), mtch⟩ := by
              have e2 : max (min (mi + 1) (next.getD j 0 - 1)) (mtch.getD j 0 + 1) = mi + 1 := by rw [← HMX.out, ← HNX.out]; omega
              unfold Rf.nack1
              simp only
              rw [e2]
            rw [e])
          have hnvb : mi + 1 ≤ 9223372036854775807 := by have := HNUM.out; omega
          go_upto_region 17 with (fail)
          have N5 := Lib.hid (N3.out.next_set rfl j (show j < next.length by omega) (mi + 1))
          have HB5 := Lib.hid (HB3.out.setCell (p := ⟨nb, j, none⟩) HNB.out (.int .i64 (mi + 1)))
          generalize w3.setCell ⟨nb, j, none⟩ (.int .i64 (mi + 1)) = w5 at *
          clear hmm3 hcc3 hmc1 hmc2 hnc1 hnc2 N3 HB3
          go_wp2_with fail
          refine (rpush_calls N5 (by omega) j (show j < conf.length by omega) hn7 (by simp only [List.length_set]; omega) hb01.1 hlen (by simp only; rw [Rf.set_get _ _ _ _ (by omega), if_pos rfl]; exact hnvb)).mono ?_
          intro e w6 hp
          have HP := Lib.hid hp
          obtain ⟨_, _, rfl, _, _⟩ := hp
          go_wp2_with fail
          go_end0
          rw [HF.out]
          obtain ⟨A6, c6, _, ⟨col6, oA6, oc6, hN6⟩, hb6⟩ := HP.out
          exact ⟨rfl, ⟨col6, ⟨some ⟨cb, co, none⟩, cc, eA, ec, vA, vc, some ⟨nb, 0, none⟩, nc, some ⟨mb, 0, none⟩, mc0, oA6, oc6⟩, [⟨_, A6, c6⟩], rfl, rfl, rfl, hN6⟩, HB5.out.trans hb6⟩
      · by_cases c2 : nx - 1 < mx + 1
        · clear HNUM2
          have HF := Lib.hid (show q = (⟨id, conf, term, vote, 2, leader, b, bt, es, snap, commit, left, wait, votes, next.set j (mx + 1), mtch⟩, [Rf.push ⟨id, conf, term, vote, 2, leader, b, bt, es, snap, commit, left, wait, votes, next.set j (mx + 1), mtch⟩ j]) from by
            rw [HQ2.out]
            show (Rf.nack1 ⟨id, conf, term, vote, 2, leader, b, bt, es, snap, commit, left, wait, votes, next, mtch⟩ _ j, [Rf.push (Rf.nack1 ⟨id, conf, term, vote, 2, leader, b, bt, es, snap, commit, left, wait, votes, next, mtch⟩ _ j) j]) = _
            have e : Rf.nack1 (⟨id, conf, term, vote, 2, leader, b, bt, es, snap, commit, left, wait, votes, next, mtch⟩ : Nod) ⟨mk, ms, md, mt, mi, ml, mc, false, me, mdt⟩ j = ⟨id, conf, term, vote, 2, leader, b, bt, es, snap, commit, left, wait, votes, next.set j (mx + 1), mtch⟩ := by
              have e2 : max (min (mi + 1) (next.getD j 0 - 1)) (mtch.getD j 0 + 1) = mx + 1 := by rw [← HMX.out, ← HNX.out]; omega
              unfold Rf.nack1
              simp only
              rw [e2]
            rw [e])
          have hnvb : mx + 1 ≤ 9223372036854775807 := by have := HNUM.out; omega
          go_upto_region 17 with (fail)
          have N5 := Lib.hid (N3.out.next_set rfl j (show j < next.length by omega) (mx + 1))
          have HB5 := Lib.hid (HB3.out.setCell (p := ⟨nb, j, none⟩) HNB.out (.int .i64 (mx + 1)))
          generalize w3.setCell ⟨nb, j, none⟩ (.int .i64 (mx + 1)) = w5 at *
          clear hmm3 hcc3 hmc1 hmc2 hnc1 hnc2 N3 HB3
          go_wp2_with fail
          refine (rpush_calls N5 (by omega) j (show j < conf.length by omega) hn7 (by simp only [List.length_set]; omega) hb01.1 hlen (by simp only; rw [Rf.set_get _ _ _ _ (by omega), if_pos rfl]; exact hnvb)).mono ?_
          intro e w6 hp
          have HP := Lib.hid hp
          obtain ⟨_, _, rfl, _, _⟩ := hp
          go_wp2_with fail
          go_end0
          rw [HF.out]
          obtain ⟨A6, c6, _, ⟨col6, oA6, oc6, hN6⟩, hb6⟩ := HP.out
          exact ⟨rfl, ⟨col6, ⟨some ⟨cb, co, none⟩, cc, eA, ec, vA, vc, some ⟨nb, 0, none⟩, nc, some ⟨mb, 0, none⟩, mc0, oA6, oc6⟩, [⟨_, A6, c6⟩], rfl, rfl, rfl, hN6⟩, HB5.out.trans hb6⟩
        · clear HNUM2
          have HF := Lib.hid (show q = (⟨id, conf, term, vote, 2, leader, b, bt, es, snap, commit, left, wait, votes, next.set j (nx - 1), mtch⟩, [Rf.push ⟨id, conf, term, vote, 2, leader, b, bt, es, snap, commit, left, wait, votes, next.set j (nx - 1), mtch⟩ j]) from by
            rw [HQ2.out]
            show (Rf.nack1 ⟨id, conf, term, vote, 2, leader, b, bt, es, snap, commit, left, wait, votes, next, mtch⟩ _ j, [Rf.push (Rf.nack1 ⟨id, conf, term, vote, 2, leader, b, bt, es, snap, commit, left, wait, votes, next, mtch⟩ _ j) j]) = _
            have e : Rf.nack1 (⟨id, conf, term, vote, 2, leader, b, bt, es, snap, commit, left, wait, votes, next, mtch⟩ : Nod) ⟨mk, ms, md, mt, mi, ml, mc, false, me, mdt⟩ j = ⟨id, conf, term, vote, 2, leader, b, bt, es, snap, commit, left, wait, votes, next.set j (nx - 1), mtch⟩ := by
              have e2 : max (min (mi + 1) (next.getD j 0 - 1)) (mtch.getD j 0 + 1) = nx - 1 := by rw [← HMX.out, ← HNX.out]; omega
              unfold Rf.nack1
              simp only
              rw [e2]
            rw [e])
          have hnvb : nx - 1 ≤ 9223372036854775807 := by have := HNUM.out; omega
          go_upto_region 17 with (fail)
          have N5 := Lib.hid (N3.out.next_set rfl j (show j < next.length by omega) (nx - 1))
          have HB5 := Lib.hid (HB3.out.setCell (p := ⟨nb, j, none⟩) HNB.out (.int .i64 (nx - 1)))
          generalize w3.setCell ⟨nb, j, none⟩ (.int .i64 (nx - 1)) = w5 at *
          clear hmm3 hcc3 hmc1 hmc2 hnc1 hnc2 N3 HB3
          go_wp2_with fail
          refine (rpush_calls N5 (by omega) j (show j < conf.length by omega) hn7 (by simp only [List.length_set]; omega) hb01.1 hlen (by simp only; rw [Rf.set_get _ _ _ _ (by omega), if_pos rfl]; exact hnvb)).mono ?_
          intro e w6 hp
          have HP := Lib.hid hp
          obtain ⟨_, _, rfl, _, _⟩ := hp
          go_wp2_with fail
          go_end0
          rw [HF.out]
          obtain ⟨A6, c6, _, ⟨col6, oA6, oc6, hN6⟩, hb6⟩ := HP.out
          exact ⟨rfl, ⟨col6, ⟨some ⟨cb, co, none⟩, cc, eA, ec, vA, vc, some ⟨nb, 0, none⟩, nc, some ⟨mb, 0, none⟩, mc0, oA6, oc6⟩, [⟨_, A6, c6⟩], rfl, rfl, rfl, hN6⟩, HB5.out.trans hb6⟩
    | true =>
      by_cases c1 : mx < mi
      · have hv1b : 0 ≤ mi ∧ mi ≤ 1099511627776 := by have := HNUM.out; omega
        have hq3 : q = (Rf.agree ⟨id, conf, term, vote, 2, leader, b, bt, es, snap, commit, left, wait, votes, next.set j (mi + 1), mtch.set j mi⟩, if mi + 1 ≤ ln then [Rf.push (Rf.agree ⟨id, conf, term, vote, 2, leader, b, bt, es, snap, commit, left, wait, votes, next.set j (mi + 1), mtch.set j mi⟩) j] else []) := by
          have e0 : Rf.ack1 (⟨id, conf, term, vote, 2, leader, b, bt, es, snap, commit, left, wait, votes, next, mtch⟩ : Nod) ⟨mk, ms, md, mt, mi, ml, mc, true, me, mdt⟩ j = ⟨id, conf, term, vote, 2, leader, b, bt, es, snap, commit, left, wait, votes, next.set j (mi + 1), mtch.set j mi⟩ := by
            have e2 : max (mtch.getD j 0) mi = mi := by rw [← HMX.out]; omega
            unfold Rf.ack1
            simp only
            rw [e2]
          rw [HQ2.out]
          simp only [if_true]
          rw [e0, ← HLN.out]
          simp only
          rw [Rf.set_get _ _ _ _ (by omega), if_pos rfl]
        have HQ3 := Lib.hid hq3
        have hw4 : IntKind.i64.wrap (mi + 1) = mi + 1 := IntWalk.i64_in _ (by omega)
        clear hq3
        go_upto_region 5 with (fail)
        go_quiet (fail)
        have N4 := Lib.hid (N3.out.bel (bel_drewN (Below.refl w3.heap.size w3) nq))
        have HM4 := Lib.hid (HM3.out.bel (bel_drewN (Below.refl w3.heap.size w3) nq))
        have HB4 := Lib.hid (HB3.out.trans (bel_base (bel_drewN (Below.refl w3.heap.size w3) nq) N3.out.rest.bs))
        generalize w3.drewN nq = w4 at *
        clear hmm3 hcc3 hmc1 hmc2 hnc1 hnc2 N3 HB3 HM3
        go_upto_region 6 with (fail)
        have SX : Sb w4 w4.drew := Below.drew (Below.refl _ _)
        have hne : Nonempty (InS (Sb w4)) := ⟨⟨_, SX⟩⟩
        have k0 : ∀ (z : InS (Sb w4)) i, z.val.cell? ⟨g, i, none⟩ = (#[.int .i64 id, .slice (some ⟨cb, co, none⟩) conf.length cc, .int .i64 term, .int .i64 vote, .int .i64 2, .int .i64 leader, .int .i64 b, .int .i64 bt, .slice eA es.length ec, .string snap, .int .i64 commit, .int .i64 left, .int .i64 wait, .slice vA votes.length vc, .slice (some ⟨nb, 0, none⟩) next.length nc, .slice (some ⟨mb, 0, none⟩) mtch.length mc0, .slice oA L.length oc] : Array Value)[i]? := N4.out.blk.ins
        have k1 : ∀ (z : InS (Sb w4)) i, z.val.cell? ⟨w.heap.size, i, none⟩ = (#[.int .i64 mk, .int .i64 ms, .int .i64 md, .int .i64 mt, .int .i64 mi, .int .i64 ml, .int .i64 mc, .bool true, .slice A me.length cap, .string mdt] : Array Value)[i]? := HM4.out.ins
        refine wp_region_tail_in 9 (Sb w4) (by kernel_rfl) (by kernel_rfl) SX ?_
        simp only [List.take_succ_cons, List.take_zero, List.drop_succ_cons, List.drop_zero]
        repeat (go_big_quiet_step (fail))
        first | refine wpQuiet_nil ?_ | go_big_quiet_step (fail)
        intro w4b hW
        have hs9 := in_ok hW
        have N4b := Lib.hid (N4.out.bel hs9)
        have HB4b := Lib.hid (HB4.out.trans (bel_base hs9 N4.out.rest.bs))
        obtain ⟨n1, n2⟩ := N4b.out.mtch_cell rfl j (show j < mtch.length by omega)
        simp only at n1
        clear hW hs9 k0 k1 SX hne
        go_upto_region 7 with (fail)
        have N5 : Hid (Nd 36 base g col ⟨id, conf, term, vote, 2, leader, b, bt, es, snap, commit, left, wait, votes, next, mtch.set j mi⟩ ⟨some ⟨cb, co, none⟩, cc, eA, ec, vA, vc, some ⟨nb, 0, none⟩, nc, some ⟨mb, 0, none⟩, mc0, oA, oc⟩ L (w4b.setCell ⟨mb, j, none⟩ (.int .i64 mi))) := Lib.hid (N4b.out.mtch_set rfl j (show j < mtch.length by omega) mi)
        have HB5 := Lib.hid (HB4b.out.setCell (p := ⟨mb, j, none⟩) HMB.out (.int .i64 mi))
        generalize w4b.setCell ⟨mb, j, none⟩ (.int .i64 mi) = w5 at *
        clear n1 n2 N4 N4b HB4 HB4b HM4
        have SX : Sb w5 w5.drew := Below.drew (Below.refl _ _)
        have hne : Nonempty (InS (Sb w5)) := ⟨⟨_, SX⟩⟩
        have k0 : ∀ (z : InS (Sb w5)) i, z.val.cell? ⟨g, i, none⟩ = (#[.int .i64 id, .slice (some ⟨cb, co, none⟩) conf.length cc, .int .i64 term, .int .i64 vote, .int .i64 2, .int .i64 leader, .int .i64 b, .int .i64 bt, .slice eA es.length ec, .string snap, .int .i64 commit, .int .i64 left, .int .i64 wait, .slice vA votes.length vc, .slice (some ⟨nb, 0, none⟩) next.length nc, .slice (some ⟨mb, 0, none⟩) mtch.length mc0, .slice oA L.length oc] : Array Value)[i]? := fun z i => by have := N5.out.blk.ins z i; simpa only [nodeC, List.length_set] using this
        have k2 : ∀ (z : InS (Sb w5)), z.val.cell? ⟨mb, j, none⟩ = some (.int .i64 mi) := fun z => by
          have := (N5.out.mtch_cell rfl j (by simp only [List.length_set]; omega)).1
          simp only at this
          rw [Rf.set_get _ _ _ _ (by omega), if_pos rfl] at this
          exact cell_in this z
        refine wp_region_tail_in 16 (Sb w5) (by kernel_rfl) (by kernel_rfl) SX ?_
        simp only [List.take_succ_cons, List.take_zero, List.drop_succ_cons, List.drop_zero]
        repeat (go_big_quiet_step (fail))
        first | refine wpQuiet_nil ?_ | go_big_quiet_step (fail)
        intro w6 hW
        have hs9 := in_ok hW
        have N6 := Lib.hid (N5.out.bel hs9)
        have HB6 := Lib.hid (HB5.out.trans (bel_base hs9 N5.out.rest.bs))
        obtain ⟨n1, n2⟩ := N6.out.next_cell rfl j (show j < next.length by omega)
        simp only at n1
        clear hW hs9 k0 k2 SX hne N5 HB5
        go_upto_region 8 with (fail)
        have N7 : Hid (Nd 36 base g col ⟨id, conf, term, vote, 2, leader, b, bt, es, snap, commit, left, wait, votes, next.set j (mi + 1), mtch.set j mi⟩ ⟨some ⟨cb, co, none⟩, cc, eA, ec, vA, vc, some ⟨nb, 0, none⟩, nc, some ⟨mb, 0, none⟩, mc0, oA, oc⟩ L (w6.setCell ⟨nb, j, none⟩ (.int .i64 (mi + 1)))) := Lib.hid (N6.out.next_set rfl j (show j < next.length by omega) (mi + 1))
        have HB7 := Lib.hid (HB6.out.setCell (p := ⟨nb, j, none⟩) HNB.out (.int .i64 (mi + 1)))
        have hB7 : Hid (Rf.Base (⟨id, conf, term, vote, 2, leader, b, bt, es, snap, commit, left, wait, votes, next.set j (mi + 1), mtch.set j mi⟩ : Nod)) := Lib.hid { hB.out with }
        generalize w6.setCell ⟨nb, j, none⟩ (.int .i64 (mi + 1)) = w7 at *
        clear n1 n2 N6 HB6
        go_wp2_with fail
        refine (ragree_calls N7 (show 0 < conf.length by omega) hn7 (by simp only [List.length_set]; omega) hlen).mono ?_
        rintro e w8 ⟨rfl, ⟨col8, hN8⟩, hb8⟩
        obtain ⟨cm, hag, hc1, hc2⟩ := Rf.agree_eq hB7.out
        have HAG := Lib.hid hag
        rw [hag] at hN8
        have N8 : Hid (Nd 36 base g col8 ⟨id, conf, term, vote, 2, leader, b, bt, es, snap, cm, left, wait, votes, next.set j (mi + 1), mtch.set j mi⟩ ⟨some ⟨cb, co, none⟩, cc, eA, ec, vA, vc, some ⟨nb, 0, none⟩, nc, some ⟨mb, 0, none⟩, mc0, oA, oc⟩ L w8) := Lib.hid hN8
        have HB8 := Lib.hid (HB7.out.trans hb8)
        clear hag hN8 hb8 hc1 hc2 N7 HB7
        have k0 : ∀ i, w8.cell? ⟨g, i, none⟩ = (#[.int .i64 id, .slice (some ⟨cb, co, none⟩) conf.length cc, .int .i64 term, .int .i64 vote, .int .i64 2, .int .i64 leader, .int .i64 b, .int .i64 bt, .slice eA es.length ec, .string snap, .int .i64 cm, .int .i64 left, .int .i64 wait, .slice vA votes.length vc, .slice (some ⟨nb, 0, none⟩) next.length nc, .slice (some ⟨mb, 0, none⟩) mtch.length mc0, .slice oA L.length oc] : Array Value)[i]? := fun i => by have := N8.out.blk.cells i; simpa only [nodeC, List.length_set] using this
        have k2 : w8.cell? ⟨nb, j, none⟩ = some (.int .i64 (mi + 1)) := by
          have := (N8.out.next_cell rfl j (by simp only [List.length_set]; omega)).1
          simp only at this
          rw [Rf.set_get _ _ _ _ (by omega), if_pos rfl] at this
          exact this
        by_cases hle : mi + 1 ≤ ln
        · have HF := Lib.hid (show q = (⟨id, conf, term, vote, 2, leader, b, bt, es, snap, cm, left, wait, votes, next.set j (mi + 1), mtch.set j mi⟩, [Rf.push ⟨id, conf, term, vote, 2, leader, b, bt, es, snap, cm, left, wait, votes, next.set j (mi + 1), mtch.set j mi⟩ j]) from by rw [HQ3.out, if_pos hle, HAG.out])
          go_upto_region 10 with (fail)
          clear k0 k2
          go_wp2_with fail
          refine (rpush_calls N8 (by omega) j (show j < conf.length by omega) hn7 (by simp only [List.length_set]; omega) hb01.1 hlen (by simp only; rw [Rf.set_get _ _ _ _ (by omega), if_pos rfl]; omega)).mono ?_
          intro e w10 hp
          have HP := Lib.hid hp
          obtain ⟨_, _, rfl, _, _⟩ := hp
          go_wp2_with fail
          go_end0
          rw [HF.out]
          obtain ⟨A6, c6, _, ⟨col6, oA6, oc6, hN6⟩, hb6⟩ := HP.out
          exact ⟨rfl, ⟨col6, ⟨some ⟨cb, co, none⟩, cc, eA, ec, vA, vc, some ⟨nb, 0, none⟩, nc, some ⟨mb, 0, none⟩, mc0, oA6, oc6⟩, [⟨_, A6, c6⟩], rfl, rfl, rfl, hN6⟩, HB8.out.trans hb6⟩
        · have HF := Lib.hid (show q = (⟨id, conf, term, vote, 2, leader, b, bt, es, snap, cm, left, wait, votes, next.set j (mi + 1), mtch.set j mi⟩, []) from by rw [HQ3.out, if_neg hle, HAG.out])
          go_wp2_with fail
          go_end0
          rw [HF.out]
          exact ⟨rfl, ⟨col8, _, [], rfl, rfl, rfl, by rw [List.append_nil]; exact N8.out⟩, HB8.out⟩
      · have hv1b : 0 ≤ mx ∧ mx ≤ 1099511627776 := by have := HNUM.out; omega
        have hq3 : q = (Rf.agree ⟨id, conf, term, vote, 2, leader, b, bt, es, snap, commit, left, wait, votes, next.set j (mx + 1), mtch.set j mx⟩, if mx + 1 ≤ ln then [Rf.push (Rf.agree ⟨id, conf, term, vote, 2, leader, b, bt, es, snap, commit, left, wait, votes, next.set j (mx + 1), mtch.set j mx⟩) j] else []) := by
          have e0 : Rf.ack1 (⟨id, conf, term, vote, 2, leader, b, bt, es, snap, commit, left, wait, votes, next, mtch⟩ : Nod) ⟨mk, ms, md, mt, mi, ml, mc, true, me, mdt⟩ j = ⟨id, conf, term, vote, 2, leader, b, bt, es, snap, commit, left, wait, votes, next.set j (mx + 1), mtch.set j mx⟩ := by
            have e2 : max (mtch.getD j 0) mi = mx := by rw [← HMX.out]; omega
            unfold Rf.ack1
            simp only
            rw [e2]
          rw [HQ2.out]
          simp only [if_true]
          rw [e0, ← HLN.out]
          simp only
          rw [Rf.set_get _ _ _ _ (by omega), if_pos rfl]
        have HQ3 := Lib.hid hq3
        have hw4 : IntKind.i64.wrap (mx + 1) = mx + 1 := IntWalk.i64_in _ (by omega)
        clear hq3
        go_upto_region 5 with (fail)
        go_quiet (fail)
        have N4 := Lib.hid (N3.out.bel (bel_drewN (Below.refl w3.heap.size w3) nq))
        have HM4 := Lib.hid (HM3.out.bel (bel_drewN (Below.refl w3.heap.size w3) nq))
        have HB4 := Lib.hid (HB3.out.trans (bel_base (bel_drewN (Below.refl w3.heap.size w3) nq) N3.out.rest.bs))
        generalize w3.drewN nq = w4 at *
        clear hmm3 hcc3 hmc1 hmc2 hnc1 hnc2 N3 HB3 HM3
        go_upto_region 7 with (fail)
        have N5 : Hid (Nd 36 base g col ⟨id, conf, term, vote, 2, leader, b, bt, es, snap, commit, left, wait, votes, next, mtch.set j mx⟩ ⟨some ⟨cb, co, none⟩, cc, eA, ec, vA, vc, some ⟨nb, 0, none⟩, nc, some ⟨mb, 0, none⟩, mc0, oA, oc⟩ L w4) := Lib.hid (by
          have e : mtch.set j mx = mtch := by rw [HMX.out]; exact set_self mtch j (by omega)
          rw [e]; exact N4.out)
        have HB5 := HB4
        obtain ⟨w5, hw5⟩ : ∃ w5, w5 = w4 := ⟨_, rfl⟩
        subst hw5
        clear N4 HB4 HM4
        have SX : Sb w5 w5.drew := Below.drew (Below.refl _ _)
        have hne : Nonempty (InS (Sb w5)) := ⟨⟨_, SX⟩⟩
        have k0 : ∀ (z : InS (Sb w5)) i, z.val.cell? ⟨g, i, none⟩ = (#[.int .i64 id, .slice (some ⟨cb, co, none⟩) conf.length cc, .int .i64 term, .int .i64 vote, .int .i64 2, .int .i64 leader, .int .i64 b, .int .i64 bt, .slice eA es.length ec, .string snap, .int .i64 commit, .int .i64 left, .int .i64 wait, .slice vA votes.length vc, .slice (some ⟨nb, 0, none⟩) next.length nc, .slice (some ⟨mb, 0, none⟩) mtch.length mc0, .slice oA L.length oc] : Array Value)[i]? := fun z i => by have := N5.out.blk.ins z i; simpa only [nodeC, List.length_set] using this
        have k2 : ∀ (z : InS (Sb w5)), z.val.cell? ⟨mb, j, none⟩ = some (.int .i64 mx) := fun z => by
          have := (N5.out.mtch_cell rfl j (by simp only [List.length_set]; omega)).1
          simp only at this
          rw [Rf.set_get _ _ _ _ (by omega), if_pos rfl] at this
          exact cell_in this z
        refine wp_region_tail_in 16 (Sb w5) (by kernel_rfl) (by kernel_rfl) SX ?_
        simp only [List.take_succ_cons, List.take_zero, List.drop_succ_cons, List.drop_zero]
        repeat (go_big_quiet_step (fail))
        first | refine wpQuiet_nil ?_ | go_big_quiet_step (fail)
        intro w6 hW
        have hs9 := in_ok hW
        have N6 := Lib.hid (N5.out.bel hs9)
        have HB6 := Lib.hid (HB5.out.trans (bel_base hs9 N5.out.rest.bs))
        obtain ⟨n1, n2⟩ := N6.out.next_cell rfl j (show j < next.length by omega)
        simp only at n1
        clear hW hs9 k0 k2 SX hne N5 HB5
        go_upto_region 8 with (fail)
        have N7 : Hid (Nd 36 base g col ⟨id, conf, term, vote, 2, leader, b, bt, es, snap, commit, left, wait, votes, next.set j (mx + 1), mtch.set j mx⟩ ⟨some ⟨cb, co, none⟩, cc, eA, ec, vA, vc, some ⟨nb, 0, none⟩, nc, some ⟨mb, 0, none⟩, mc0, oA, oc⟩ L (w6.setCell ⟨nb, j, none⟩ (.int .i64 (mx + 1)))) := Lib.hid (N6.out.next_set rfl j (show j < next.length by omega) (mx + 1))
        have HB7 := Lib.hid (HB6.out.setCell (p := ⟨nb, j, none⟩) HNB.out (.int .i64 (mx + 1)))
        have hB7 : Hid (Rf.Base (⟨id, conf, term, vote, 2, leader, b, bt, es, snap, commit, left, wait, votes, next.set j (mx + 1), mtch.set j mx⟩ : Nod)) := Lib.hid { hB.out with }
        generalize w6.setCell ⟨nb, j, none⟩ (.int .i64 (mx + 1)) = w7 at *
        clear n1 n2 N6 HB6
        go_wp2_with fail
        refine (ragree_calls N7 (show 0 < conf.length by omega) hn7 (by simp only [List.length_set]; omega) hlen).mono ?_
        rintro e w8 ⟨rfl, ⟨col8, hN8⟩, hb8⟩
        obtain ⟨cm, hag, hc1, hc2⟩ := Rf.agree_eq hB7.out
        have HAG := Lib.hid hag
        rw [hag] at hN8
        have N8 : Hid (Nd 36 base g col8 ⟨id, conf, term, vote, 2, leader, b, bt, es, snap, cm, left, wait, votes, next.set j (mx + 1), mtch.set j mx⟩ ⟨some ⟨cb, co, none⟩, cc, eA, ec, vA, vc, some ⟨nb, 0, none⟩, nc, some ⟨mb, 0, none⟩, mc0, oA, oc⟩ L w8) := Lib.hid hN8
        have HB8 := Lib.hid (HB7.out.trans hb8)
        clear hag hN8 hb8 hc1 hc2 N7 HB7
        have k0 : ∀ i, w8.cell? ⟨g, i, none⟩ = (#[.int .i64 id, .slice (some ⟨cb, co, none⟩) conf.length cc, .int .i64 term, .int .i64 vote, .int .i64 2, .int .i64 leader, .int .i64 b, .int .i64 bt, .slice eA es.length ec, .string snap, .int .i64 cm, .int .i64 left, .int .i64 wait, .slice vA votes.length vc, .slice (some ⟨nb, 0, none⟩) next.length nc, .slice (some ⟨mb, 0, none⟩) mtch.length mc0, .slice oA L.length oc] : Array Value)[i]? := fun i => by have := N8.out.blk.cells i; simpa only [nodeC, List.length_set] using this
        have k2 : w8.cell? ⟨nb, j, none⟩ = some (.int .i64 (mx + 1)) := by
          have := (N8.out.next_cell rfl j (by simp only [List.length_set]; omega)).1
          simp only at this
          rw [Rf.set_get _ _ _ _ (by omega), if_pos rfl] at this
          exact this
        by_cases hle : mx + 1 ≤ ln
        · have HF := Lib.hid (show q = (⟨id, conf, term, vote, 2, leader, b, bt, es, snap, cm, left, wait, votes, next.set j (mx + 1), mtch.set j mx⟩, [Rf.push ⟨id, conf, term, vote, 2, leader, b, bt, es, snap, cm, left, wait, votes, next.set j (mx + 1), mtch.set j mx⟩ j]) from by rw [HQ3.out, if_pos hle, HAG.out])
          go_upto_region 10 with (fail)
          clear k0 k2
          go_wp2_with fail
          refine (rpush_calls N8 (by omega) j (show j < conf.length by omega) hn7 (by simp only [List.length_set]; omega) hb01.1 hlen (by simp only; rw [Rf.set_get _ _ _ _ (by omega), if_pos rfl]; omega)).mono ?_
          intro e w10 hp
          have HP := Lib.hid hp
          obtain ⟨_, _, rfl, _, _⟩ := hp
          go_wp2_with fail
          go_end0
          rw [HF.out]
          obtain ⟨A6, c6, _, ⟨col6, oA6, oc6, hN6⟩, hb6⟩ := HP.out
          exact ⟨rfl, ⟨col6, ⟨some ⟨cb, co, none⟩, cc, eA, ec, vA, vc, some ⟨nb, 0, none⟩, nc, some ⟨mb, 0, none⟩, mc0, oA6, oc6⟩, [⟨_, A6, c6⟩], rfl, rfl, rfl, hN6⟩, HB8.out.trans hb6⟩
        · have HF := Lib.hid (show q = (⟨id, conf, term, vote, 2, leader, b, bt, es, snap, cm, left, wait, votes, next.set j (mx + 1), mtch.set j mx⟩, []) from by rw [HQ3.out, if_neg hle, HAG.out])
          go_wp2_with fail
          go_end0
          rw [HF.out]
          exact ⟨rfl, ⟨col8, _, [], rfl, rfl, rfl, by rw [List.append_nil]; exact N8.out⟩, HB8.out⟩
end Go.Proofs.YtdladjgdhnkkcaaGreat
