
/-
  Contracts of the reference of layer 14: the node's own numbers; entries are sent.
  Conditions: the node lies in memory, its log is right.
-/
import Derived.Test.YtdladjgdhnkkcaaGreatZRg1
import Derived.Test.YtdladjgdhnkkcaaGreatZTrSToTrR2
import Derived.Test.YtdladjgdhnkkcaaGreatZRf11
namespace Go.Proofs.YtdladjgdhnkkcaaGreat
open Go.RowKit
set_option linter.unusedVariables false
set_option linter.unusedSimpArgs false
set_option maxHeartbeats 4000000

set_option maxRecDepth 20000 in
theorem rown_calls {base g : Nat} {col : Nat → Nat} {r : Nod} {x : NdX} {L : List MsgV} {w : World} (H : Hid (Nd 36 base g col r x L w)) (hid : Hid (r.id ∈ r.conf)) (hc7 : r.conf.length ≤ 7) (hn : r.next.length = r.conf.length) (hm : r.mtch.length = r.conf.length) (hlen : r.es.length ≤ 4096) (hl0 : 0 ≤ Rf.lastN r) (hl1 : Rf.lastN r ≤ 1099511627776) :
    Calls Tryz.prog 92 #[.pointer (some ⟨g, 0, none⟩)] w (Now 36 base g (Rf.own r) x L w) := by
  have hj := Rf.idx_lt hid.out
  obtain ⟨mb, hmA, hgm, hml, hmb, hmc⟩ := H.out.mtch_blk (by omega)
  obtain ⟨nb, hnA, hgn, hnl, hnb, hnc⟩ := H.out.next_blk (by omega)
  have hmn : mb ≠ nb := fun e => by rw [e, hnc] at hmc; cases hmc
  obtain ⟨q, hq⟩ : ∃ q, q = Rf.own r := ⟨_, rfl⟩
  rw [← hq]
  have HQ := Lib.hid hq
  obtain ⟨id, conf, term, vote, role, leader, b, bt, es, snap, commit, left, wait, votes, next, mtch⟩ := r
  obtain ⟨cA, cc, eA, ec, vA, vc, nA, nc, mA, mc, oA, oc⟩ := x
  simp only at hnA hmA hj hn hm hlen hc7
  subst hnA; subst hmA
  have hC := H.out.blk.cells
  dsimp only [nodeC] at hC
  unfold Rf.own at HQ
  have HLC := Lib.hid (rlast2_calls b bt eA ec es w H.out.rest.es.rd (by omega))
  obtain ⟨ln, hln⟩ : ∃ ln, ln = Tr.lastN b bt es := ⟨_, rfl⟩
  have HQ2 : Hid (q = (⟨id, conf, term, vote, role, leader, b, bt, es, snap, commit, left, wait, votes, next.set (Rf.idx id conf) (ln + 1), mtch.set (Rf.idx id conf) ln⟩ : Nod)) := Lib.hid (by rw [HQ.out, hln]; rfl)
  have hl2 : 0 ≤ ln := by rw [hln]; exact hl0
  have hl3 : ln ≤ 1099511627776 := by rw [hln]; exact hl1
  rw [← hln] at HLC
  have HPL := Lib.hid (fun (W : World) (h : Hid (RdI W cA conf)) => place_calls ⟨id, conf, term, vote, role, leader, b, bt, es, snap, commit, left, wait, votes, next, mtch⟩ ⟨cA, cc, eA, ec, vA, vc, some ⟨nb, 0, none⟩, nc, some ⟨mb, 0, none⟩, mc, oA, oc⟩ id W h (by show conf.length ≤ _; omega) hid)
  simp only at HPL
  generalize Rf.idx id conf = j at *
  have j1 : (j : Int) < (mtch.length : Int) := by omega
  have j2 : (j : Int) < (next.length : Int) := by omega
  have hw1 : IntKind.i64.wrap (ln + 1) = ln + 1 := IntWalk.i64_in _ (by omega)
  have HGM := Lib.hid hgm
  have HGN := Lib.hid hgn
  have HMN := Lib.hid hmn
  have HMB := Lib.hid hmb
  have HNB := Lib.hid hnb
  have HNL := Lib.hid hnl
  clear hq hgm hgn hmn hmb hnb hmc hnc HQ hln hl0 hl1 hnl
  go_enter Tryz.func92, Tryz.ntmps92
  go_wp2_with fail
  refine HLC.out.mono ?_
  rintro e w1 ⟨rfl, hb1⟩
  have N1 := Lib.hid (H.out.bel hb1)
  have HB1 := Lib.hid hb1
  clear hb1 hC HLC
  have SX : Sb w1 w1.drew := Below.drew (Below.refl _ _)
  have hne : Nonempty (InS (Sb w1)) := ⟨⟨_, SX⟩⟩
  have k0 : ∀ (z : InS (Sb w1)), z.val.cell? ⟨g, 0, none⟩ = some (.int .i64 id) := fun z => (N1.out.ins z).blk.cells 0
  go_upto_region 1 with (fail)
  refine wp_region_in (Sb w1) (by kernel_rfl) (by kernel_rfl) SX ?_
  iterate 3 (go_big_quiet_step (fail))
  refine wpQuiet_loadP (C := fun w' => ∃ z : InS (Sb w1), w' = z.val) rfl 28 (.tmp 16) rfl g rfl (raftL ⟨id, conf, term, vote, role, leader, b, bt, es, snap, commit, left, wait, votes, next, mtch⟩ ⟨cA, cc, eA, ec, vA, vc, some ⟨nb, 0, none⟩, nc, some ⟨mb, 0, none⟩, mc, oA, oc⟩) (fun W hW => by obtain ⟨z, rfl⟩ := hW; exact ⟨_, _, (N1.out.ins z).blk, rfl⟩) Tryz.underlying28 infoR ?_
  simp only [Act.put, List.setIfInBounds_toArray, List.set_cons_succ, List.set_cons_zero]
  repeat (go_big_quiet_step ((go_at_call 76; exact calls_in_bel (fun _ _ h k => bel_tr h k) (HPL.out _ (Lib.hid (N1.out.ins _).rest.conf.rd.2.1)))))
  first | refine wpQuiet_nil ?_ | go_big_quiet_step (fail)
  intro W2 hW
  have hs2 := in_ok hW
  have N2 := Lib.hid (N1.out.bel hs2)
  have HB2 := Lib.hid (bel_tr HB1.out hs2)
  have hC2 : ∀ i, W2.cell? ⟨g, i, none⟩ = (#[.int .i64 id, .slice cA conf.length cc, .int .i64 term, .int .i64 vote, .int .i64 role, .int .i64 leader, .int .i64 b, .int .i64 bt, .slice eA es.length ec, .string snap, .int .i64 commit, .int .i64 left, .int .i64 wait, .slice vA votes.length vc, .slice (some ⟨nb, 0, none⟩) next.length nc, .slice (some ⟨mb, 0, none⟩) mtch.length mc, .slice oA L.length oc] : Array Value)[i]? := N2.out.blk.cells
  obtain ⟨m1, m2⟩ := N2.out.mtch_cell rfl j (by show j < mtch.length; omega)
  obtain ⟨n1, n2⟩ := N2.out.next_cell rfl j (by show j < next.length; omega)
  have hgm2 := HGM.out
  have hgn2 := HMN.out
  clear hW hs2 k0 SX hne
  go_wp2_with fail
  go_end0
  refine ⟨rfl, ⟨col, ?_⟩, ((bel_base HB2.out ?_).setCell HMB.out _).setCell HNB.out _⟩
  · rw [HQ2.out]
    exact (N2.out.mtch_set rfl j (by show j < mtch.length; omega) _).next_set rfl j (by show j < next.length; omega) _
  · exact Nat.le_trans HNB.out (Nat.le_of_lt HNL.out)

end Go.Proofs.YtdladjgdhnkkcaaGreat
