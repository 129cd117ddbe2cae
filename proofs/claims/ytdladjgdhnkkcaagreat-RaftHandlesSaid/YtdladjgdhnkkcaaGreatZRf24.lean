
/-
  Contract: a moment goes by.
  Conditions: the node can be read.
-/
import Derived.Test.YtdladjgdhnkkcaaGreatZRf23
import Derived.Lib.MinMax
namespace Go.Proofs.YtdladjgdhnkkcaaGreat
open Go.RowKit
set_option linter.unusedVariables false
set_option linter.unusedSimpArgs false
set_option maxHeartbeats 20000000

set_option maxRecDepth 100000 in
theorem tick_calls (r : Nod) (x : NdX) (w : World) (h : Hid (RdR w r x)) (d : Int) (hd0 : -9223372036854775808 ≤ d) (hd1 : d ≤ 9223372036854775807) :
    Calls Tryz.prog 10 #[raftV r x, .int .i64 d] w (Ans w (Rf.tick r d).1 (Rf.tick r d).2) := by
  obtain ⟨q, hq⟩ : ∃ q, q = Rf.tick r d := ⟨_, rfl⟩
  rw [← hq]
  have HQ := Lib.hid hq
  unfold Rf.tick at HQ
  clear hq
  have HST := Lib.hid (fun (W : World) (hb : Below w.heap.size w W) => start_calls r x W (Lib.hid (h.out.bel hb)))
  have HCK := Lib.hid (fun (W : World) (hb : Below w.heap.size w W) => rfcheck_calls r x W (Lib.hid (h.out.bel hb)))
  have HCI := Lib.hid (Rf.chk_iff r)
  obtain ⟨c1, hc1⟩ : ∃ c1, c1 = Rf.chk r := ⟨_, rfl⟩
  rw [← hc1] at HCK HQ HCI
  clear hc1
  obtain ⟨id, conf, term, vote, role, leader, b, bt, es, snap, commit, left, wait, votes, next, mtch⟩ := r
  obtain ⟨cA, cc, eA, ec, vA, vc, nA, nc, mA, mc0, oA, oc⟩ := x
  have HB1 := Lib.hid (bel_new (bel_new (Below.refl w.heap.size w) (.cells #[.int .i64 id, .slice cA conf.length cc, .int .i64 term, .int .i64 vote, .int .i64 role, .int .i64 leader, .int .i64 b, .int .i64 bt, .slice eA es.length ec, .string snap, .int .i64 commit, .int .i64 left, .int .i64 wait, .slice vA votes.length vc, .slice nA next.length nc, .slice mA mtch.length mc0] 28)) (.cells #[.int .i64 0, .slice none 0 0, .int .i64 0, .int .i64 0, .int .i64 0, .int .i64 0, .int .i64 0, .int .i64 0, .slice none 0 0, .string ⟨#[]⟩, .int .i64 0, .int .i64 0, .int .i64 0, .slice none 0 0, .slice none 0 0, .slice none 0 0] 28))
  have HR1 := Lib.hid ((Blk.new w 28 #[.int .i64 id, .slice cA conf.length cc, .int .i64 term, .int .i64 vote, .int .i64 role, .int .i64 leader, .int .i64 b, .int .i64 bt, .slice eA es.length ec, .string snap, .int .i64 commit, .int .i64 left, .int .i64 wait, .slice vA votes.length vc, .slice nA next.length nc, .slice mA mtch.length mc0]).alloc (.cells #[.int .i64 0, .slice none 0 0, .int .i64 0, .int .i64 0, .int .i64 0, .int .i64 0, .int .i64 0, .int .i64 0, .slice none 0 0, .string ⟨#[]⟩, .int .i64 0, .int .i64 0, .int .i64 0, .slice none 0 0, .slice none 0 0, .slice none 0 0] 28))
  have HZ1 := Lib.hid (Blk.new2 w (.cells #[.int .i64 id, .slice cA conf.length cc, .int .i64 term, .int .i64 vote, .int .i64 role, .int .i64 leader, .int .i64 b, .int .i64 bt, .slice eA es.length ec, .string snap, .int .i64 commit, .int .i64 left, .int .i64 wait, .slice vA votes.length vc, .slice nA next.length nc, .slice mA mtch.length mc0] 28) 28 #[.int .i64 0, .slice none 0 0, .int .i64 0, .int .i64 0, .int .i64 0, .int .i64 0, .int .i64 0, .int .i64 0, .slice none 0 0, .string ⟨#[]⟩, .int .i64 0, .int .i64 0, .int .i64 0, .slice none 0 0, .slice none 0 0, .slice none 0 0])
  have hs1 : ((w.alloc (.cells #[.int .i64 id, .slice cA conf.length cc, .int .i64 term, .int .i64 vote, .int .i64 role, .int .i64 leader, .int .i64 b, .int .i64 bt, .slice eA es.length ec, .string snap, .int .i64 commit, .int .i64 left, .int .i64 wait, .slice vA votes.length vc, .slice nA next.length nc, .slice mA mtch.length mc0] 28)).alloc (.cells #[.int .i64 0, .slice none 0 0, .int .i64 0, .int .i64 0, .int .i64 0, .int .i64 0, .int .i64 0, .int .i64 0, .slice none 0 0, .string ⟨#[]⟩, .int .i64 0, .int .i64 0, .int .i64 0, .slice none 0 0, .slice none 0 0, .slice none 0 0] 28)).heap.size = w.heap.size + 2 := by rw [size_alloc, size_alloc]
  have HS1 := Lib.hid hs1
  clear hs1
  simp only at HST HCK HCI HQ
  go_enter Tryz.func10, Tryz.ntmps10
  go_wp2_with (refine wpList_loadB rfl 28 (.tmp 2) rfl w.heap.size rfl HR1.out Tryz.underlying28 infoR ?_)
  generalize (w.alloc (.cells #[.int .i64 id, .slice cA conf.length cc, .int .i64 term, .int .i64 vote, .int .i64 role, .int .i64 leader, .int .i64 b, .int .i64 bt, .slice eA es.length ec, .string snap, .int .i64 commit, .int .i64 left, .int .i64 wait, .slice vA votes.length vc, .slice nA next.length nc, .slice mA mtch.length mc0] 28)).alloc (.cells #[.int .i64 0, .slice none 0 0, .int .i64 0, .int .i64 0, .int .i64 0, .int .i64 0, .int .i64 0, .int .i64 0, .slice none 0 0, .string ⟨#[]⟩, .int .i64 0, .int .i64 0, .int .i64 0, .slice none 0 0, .slice none 0 0, .slice none 0 0] 28) = w1 at *
  have hlt3 : w.heap.size + 2 ≤ w1.heap.size := by rw [HS1.out]; exact Nat.le_refl _
  refine (HST.out w1 HB1.out).mono ?_
  rintro e w2 ⟨⟨g, x2, col, rfl, hN2⟩, hb2⟩
  have HN2 := Lib.hid hN2
  have hge : w1.heap.size ≤ g := hN2.ge
  have hgne0 : w.heap.size ≠ g := by omega
  have hgne1 : w.heap.size + 1 ≠ g := by omega
  have hzl : Hid (w.heap.size + 1 < w1.heap.size) := Lib.hid (by omega)
  have hz2 : Hid (w.heap.size ≤ w.heap.size + 1) := Lib.hid (by omega)
  have hgne3 : g ≠ w.heap.size + 1 := by omega
  have HB2 := Lib.hid (bel_tr HB1.out hb2)
  have HR2 := Lib.hid (HR1.out.bel hb2)
  have HZ2 := Lib.hid (HZ1.out.bel hb2)
  clear hN2 hb2 HB1 HR1 HZ1 HST
  go_wp2_with (refine wpList_loadB rfl 28 (.tmp 2) rfl w.heap.size rfl HR2.out Tryz.underlying28 infoR ?_)
  refine (HCK.out w2 HB2.out).mono ?_
  rintro e w3 ⟨rfl, hb3⟩
  have HN3 := Lib.hid (HN2.out.bel hb3)
  have HB3 := Lib.hid (bel_tr HB2.out hb3)
  have HZ3 := Lib.hid (HZ2.out.bel hb3)
  clear hb3 HB2 HR2 HZ2 HN2 HCK
  cases c1 with
  | false =>
    have HQ := Lib.hid (show q = (⟨id, conf, term, vote, role, leader, b, bt, es, snap, commit, left, wait, votes, next, mtch⟩, []) from by rw [HQ.out]; rfl)
    go_wp2_with (first | (refine wpList_loadP rfl 28 (.tmp 14) rfl g rfl HN3.out.blk (raftL ⟨id, conf, term, vote, role, leader, b, bt, es, snap, commit, left, wait, votes, next, mtch⟩ x2) rfl Tryz.underlying28 infoR ?_) | (refine wpList_storeB rfl 28 (.tmp 4) (.tmp 15) rfl (w.heap.size + 1) (raftL ⟨id, conf, term, vote, role, leader, b, bt, es, snap, commit, left, wait, votes, next, mtch⟩ x2).toArray rfl rfl HZ3.out infoR rfl (raftL_one _ _) ?_))
    have hld := run_loadVarB (P := Tryz.prog) (HZ3.out.rowSame (raftL ⟨id, conf, term, vote, role, leader, b, bt, es, snap, commit, left, wait, votes, next, mtch⟩ x2).toArray) 28 Tryz.underlying28 infoR
    have HRow := Lib.hid (Rest.row1 (HN3.out.rest.out0.lowCol) (lowCol_lt hzl.out) (raftL ⟨id, conf, term, vote, role, leader, b, bt, es, snap, commit, left, wait, votes, next, mtch⟩ x2).toArray)
    have HBR2 := Lib.hid (bel_row HB3.out hz2.out (raftL ⟨id, conf, term, vote, role, leader, b, bt, es, snap, commit, left, wait, votes, next, mtch⟩ x2).toArray)
    generalize w3.setRow (w.heap.size + 1) (raftL ⟨id, conf, term, vote, role, leader, b, bt, es, snap, commit, left, wait, votes, next, mtch⟩ x2).toArray = WG at *
    refine bodyPost_ret (v := .tuple #[raftV ⟨id, conf, term, vote, role, leader, b, bt, es, snap, commit, left, wait, votes, next, mtch⟩ x2, .slice none ([] : List MsgV).length 0]) (by simp [results, Tryz.results10, asAddr, hld]) rfl ?_
    rw [HQ.out]
    exact ⟨⟨{ x2 with oA := none, oc := 0 }, lowCol w1.heap.size col, ([] : List MsgV), rfl, rfl, HRow.out.low (by omega)⟩, HBR2.out⟩
  | true =>
    have HQ := Lib.hid (show q = if 1 < left then (⟨id, conf, term, vote, role, leader, b, bt, es, snap, commit, left - 1, wait, votes, next, mtch⟩, []) else if role = 2 then (⟨id, conf, term, vote, role, leader, b, bt, es, snap, commit, 2, wait, votes, next, mtch⟩, Rf.pushAll ⟨id, conf, term, vote, role, leader, b, bt, es, snap, commit, 2, wait, votes, next, mtch⟩) else Rf.stand ⟨id, conf, term, vote, role, leader, b, bt, es, snap, commit, 0, wait, votes, next, mtch⟩ d from by rw [HQ.out]; rfl)
    obtain ⟨hB, hRL⟩ := HCI.out.1 (by first | rfl | trivial)
    have HBR := Lib.hid hB
    have HRL := Lib.hid hRL
    have hl0 : 0 ≤ left := hB.left0
    have hl1 : left ≤ 100 := hB.left1
    clear hB hRL HCI
    have kN : w3.cell? ⟨g, 11, none⟩ = some (.int .i64 left) := HN3.out.blk.cells 11
    have fN := HN3.out.blk.free
    obtain ⟨lv, hlv⟩ : ∃ lv, lv = max (left - 1) 0 := ⟨_, rfl⟩
    have HLV0 := Lib.hid hlv
    have hmx : max (left - 1) 0 = lv := hlv.symm
    have hwl : IntKind.i64.wrap (left - 1) = left - 1 := IntWalk.i64_in _ (by omega)
    have NR := Lib.hid (HN3.out.run.set 11 (.int .i64 lv))
    have N4 := Lib.hid (NR.out.nd ⟨id, conf, term, vote, role, leader, b, bt, es, snap, commit, lv, wait, votes, next, mtch⟩ (by simp only [nodeC, List.setIfInBounds_toArray, List.set_cons_succ, List.set_cons_zero]) rfl rfl rfl rfl rfl)
    have HB4 := Lib.hid (bel_bel HB3.out NR.out.bel (by omega))
    have HZ4 := Lib.hid (HZ3.out.below NR.out.bel (by omega))
    clear hlv
    have kN4 : w3.cell? ⟨g, 4, none⟩ = some (.int .i64 role) := HN3.out.blk.cells 4
    have HQ1 := HQ
    clear HQ
    by_cases hl : 1 < left
    · have hlv2 : lv = left - 1 := by rw [HLV0.out]; omega
      have HQ2 := Lib.hid (show q = (⟨id, conf, term, vote, role, leader, b, bt, es, snap, commit, lv, wait, votes, next, mtch⟩, []) from by rw [HQ1.out, if_pos hl, hlv2])
      have hlp : 0 < lv := by omega
      clear hlv2
      go_wp2_with fail
      generalize w3.setCell ⟨g, 11, none⟩ (.int .i64 lv) = w4 at *
      clear kN kN4 fN hmx hwl NR HN3 HB3 HZ3
      have NF := Lib.hid (N4.out.bel (bel_drew (Below.refl _ _)))
      have HBF := Lib.hid (bel_drew HB4.out)
      have HZF := Lib.hid (HZ4.out.bel (bel_drew (Below.refl _ _)))
      refine wp_region_heldD (S := fun W => Blk W g 53 (nodeC ⟨id, conf, term, vote, role, leader, b, bt, es, snap, commit, lv, wait, votes, next, mtch⟩ x2 ([] : List MsgV).length)) (by kernel_rfl) ?_
      have hS : Blk (w4.drew) g 53 (nodeC ⟨id, conf, term, vote, role, leader, b, bt, es, snap, commit, lv, wait, votes, next, mtch⟩ x2 ([] : List MsgV).length) := NF.out.blk
      refine wpAnyH_take (i := 0) (v := .pointer (some ⟨g, 0, none⟩)) rfl (by kernel_rfl) (by kernel_rfl) (by kernel_rfl) (fun _ _ _ h => h) (Or.inl ⟨by rfl, fun W hW => by go_simp⟩) hS ?_
      simp only [Act.put, List.getElem_toArray, List.getElem_cons_zero, List.getElem_cons_succ, List.setIfInBounds_toArray, List.set_cons_zero, List.set_cons_succ]
      refine wpAnyH_take (i := 1) (v := .pointer (some ⟨g, 0, none⟩)) rfl (by kernel_rfl) (by kernel_rfl) (by kernel_rfl) (fun _ _ _ h => h) (Or.inl ⟨by rfl, fun W hW => by go_simp⟩) hS ?_
      simp only [Act.put, List.getElem_toArray, List.getElem_cons_zero, List.getElem_cons_succ, List.setIfInBounds_toArray, List.set_cons_zero, List.set_cons_succ]
      refine wpAnyH_take (i := 2) (v := .pointer (some ⟨g, 0, none⟩)) rfl (by kernel_rfl) (by kernel_rfl) (by kernel_rfl) (fun _ _ _ h => h) (Or.inl ⟨by rfl, fun W hW => by go_simp⟩) hS ?_
      simp only [Act.put, List.getElem_toArray, List.getElem_cons_zero, List.getElem_cons_succ, List.setIfInBounds_toArray, List.set_cons_zero, List.set_cons_succ]
      refine wpAnyH_take (i := 3) (v := .agg (raftL ⟨id, conf, term, vote, role, leader, b, bt, es, snap, commit, lv, wait, votes, next, mtch⟩ x2).toArray) rfl (by kernel_rfl) (by kernel_rfl) (by kernel_rfl) (fun _ _ _ h => h) (yieldsIf_load_mid rfl _ _ rfl g 0 rfl (raftL ⟨id, conf, term, vote, role, leader, b, bt, es, snap, commit, lv, wait, votes, next, mtch⟩ x2) _ (fun W hW => Blk.range hW _ rfl) Tryz.underlying28 rfl infoR) hS ?_
      simp only [Act.put, List.getElem_toArray, List.getElem_cons_zero, List.getElem_cons_succ, List.setIfInBounds_toArray, List.set_cons_zero, List.set_cons_succ]
      refine wpAnyH_take (i := 4) (v := .pointer (some ⟨g, 0, none⟩)) rfl (by kernel_rfl) (by kernel_rfl) (by kernel_rfl) (fun _ _ _ h => h) (Or.inl ⟨by rfl, fun W hW => by go_simp⟩) hS ?_
      simp only [Act.put, List.getElem_toArray, List.getElem_cons_zero, List.getElem_cons_succ, List.setIfInBounds_toArray, List.set_cons_zero, List.set_cons_succ]
      refine wpAnyH_take (i := 5) (v := .pointer (some ⟨g, 0, none⟩)) rfl (by kernel_rfl) (by kernel_rfl) (by kernel_rfl) (fun _ _ _ h => h) (Or.inl ⟨by rfl, fun W hW => by go_simp⟩) hS ?_
      simp only [Act.put, List.getElem_toArray, List.getElem_cons_zero, List.getElem_cons_succ, List.setIfInBounds_toArray, List.set_cons_zero, List.set_cons_succ]
      refine wpAnyH_take (i := 6) (v := .pointer (some ⟨g, 16, none⟩)) rfl (by kernel_rfl) (by kernel_rfl) (by kernel_rfl) (fun _ _ _ h => h) (Or.inl ⟨by rfl, fun W hW => by go_simp⟩) hS ?_
      simp only [Act.put, List.getElem_toArray, List.getElem_cons_zero, List.getElem_cons_succ, List.setIfInBounds_toArray, List.set_cons_zero, List.set_cons_succ]
      refine wpAnyH_take (i := 7) (v := .slice x2.oA ([] : List MsgV).length x2.oc) rfl (by kernel_rfl) (by kernel_rfl) (by kernel_rfl) (fun _ _ _ h => h) (Or.inl ⟨by rfl, fun W hW => by
        have h16 : W.cell? ⟨g, 16, none⟩ = some (.slice x2.oA ([] : List MsgV).length x2.oc) := Blk.cells hW 16
        clear hW
        go_simp⟩) hS ?_
      simp only [Act.put, List.getElem_toArray, List.getElem_cons_zero, List.getElem_cons_succ, List.setIfInBounds_toArray, List.set_cons_zero, List.set_cons_succ]
      generalize w4.drew = WF at *
      refine wpAnyH_one (i := 8) (by kernel_rfl) rfl rfl ?_
      intro K hK
      simp only [List.getElem_toArray, List.getElem_cons_succ, List.getElem_cons_zero]
      refine wp_store_row _ _ _ rfl (w.heap.size + 1) (raftL ⟨id, conf, term, vote, role, leader, b, bt, es, snap, commit, lv, wait, votes, next, mtch⟩ x2).toArray rfl rfl _ _ HZF.out infoR rfl (raftL_one _ _) (hK _ _ (Blk.rowFar hS hgne3 _) ?_)
      clear hK K
      simp only [Act.put, List.getElem_toArray, List.getElem_cons_zero, List.getElem_cons_succ, List.setIfInBounds_toArray, List.set_cons_zero, List.set_cons_succ]
      have hld := run_loadVarB (P := Tryz.prog) (HZF.out.rowSame (raftL ⟨id, conf, term, vote, role, leader, b, bt, es, snap, commit, lv, wait, votes, next, mtch⟩ x2).toArray) 28 Tryz.underlying28 infoR
      have HRow := Lib.hid (Rest.row1 (NF.out.rest.lowCol) (lowCol_lt hzl.out) (raftL ⟨id, conf, term, vote, role, leader, b, bt, es, snap, commit, lv, wait, votes, next, mtch⟩ x2).toArray)
      have HBR2 := Lib.hid (bel_row HBF.out hz2.out (raftL ⟨id, conf, term, vote, role, leader, b, bt, es, snap, commit, lv, wait, votes, next, mtch⟩ x2).toArray)
      have hS := Blk.rowFar hS hgne3 (raftL ⟨id, conf, term, vote, role, leader, b, bt, es, snap, commit, lv, wait, votes, next, mtch⟩ x2).toArray
      generalize WF.setRow (w.heap.size + 1) (raftL ⟨id, conf, term, vote, role, leader, b, bt, es, snap, commit, lv, wait, votes, next, mtch⟩ x2).toArray = WG at *
      refine wpAnyH_one (i := 9) (by kernel_rfl) rfl rfl ?_
      intro K hK
      go_simp
      refine hK _ _ hS ?_
      clear hK K
      refine ⟨by kernel_rfl, ?_⟩
      go_wp2_with fail
      refine bodyPost_ret (v := .tuple #[raftV ⟨id, conf, term, vote, role, leader, b, bt, es, snap, commit, lv, wait, votes, next, mtch⟩ x2, .slice x2.oA ([] : List MsgV).length x2.oc]) (by simp [results, Tryz.results10, asAddr, hld]) rfl ?_
      rw [HQ2.out]
      exact ⟨⟨x2, lowCol w1.heap.size col, ([] : List MsgV), rfl, rfl, HRow.out.low (by omega)⟩, HBR2.out⟩
    · have hlv2 : lv = 0 := by rw [HLV0.out]; omega
      have HQ2 := Lib.hid (show q = if role = 2 then (⟨id, conf, term, vote, role, leader, b, bt, es, snap, commit, 2, wait, votes, next, mtch⟩, Rf.pushAll ⟨id, conf, term, vote, role, leader, b, bt, es, snap, commit, 2, wait, votes, next, mtch⟩) else Rf.stand ⟨id, conf, term, vote, role, leader, b, bt, es, snap, commit, 0, wait, votes, next, mtch⟩ d from by rw [HQ1.out, if_neg hl])
      have hlz : ¬ (0 : Int) < lv := by omega
      subst hlv2
      by_cases kr : role = 2
      · have krb : (role == 2) = true := by rw [beq_iff_eq]; exact kr
        obtain ⟨Ms, hMs⟩ : ∃ Ms, Ms = Rf.pushAll ⟨id, conf, term, vote, role, leader, b, bt, es, snap, commit, 2, wait, votes, next, mtch⟩ := ⟨_, rfl⟩
        have HQ3 := Lib.hid (show q = (⟨id, conf, term, vote, role, leader, b, bt, es, snap, commit, 2, wait, votes, next, mtch⟩, Ms) from by rw [HQ2.out, if_pos kr, hMs])
        have hLd : Rf.Lead ⟨id, conf, term, vote, role, leader, b, bt, es, snap, commit, left, wait, votes, next, mtch⟩ := by
          rcases HRL.out with ⟨a, _⟩ | ⟨a, _⟩ | ⟨_, _, a⟩
          · simp only at a; omega
          · simp only at a; omega
          · exact a
        have hca := Qm.chk_asc HBR.out.conf
        have hrm := Tr.chk_rim HBR.out.trail
        have HPC := Lib.hid (fun (W : World) (N : Hid (Nd 53 w1.heap.size g col ⟨id, conf, term, vote, role, leader, b, bt, es, snap, commit, 2, wait, votes, next, mtch⟩ x2 [] W)) => pushAll_calls N (by simp) (by have := hca.2.1; simpa using this) (by have := hca.2.2; simpa using this) (by have := hLd.next; simpa using this) (by have := hrm.1; simpa using this) (by have := hrm.2.2.2.2.2.1; simpa using this) (Lib.hid (fun i hi => by have h1 := (hLd.nums i (by simpa using hi)).2.2.2; have h2 := hrm.2.1; have h3 := hrm.2.2.2.2.2.1; simp only at h1 h2 h3 ⊢; omega)))
        rw [← hMs] at HPC
        have NR0 := NR
        clear NR
        have NR := Lib.hid (N4.out.run.set 11 (.int .i64 2))
        have N5 := Lib.hid (NR.out.nd ⟨id, conf, term, vote, role, leader, b, bt, es, snap, commit, 2, wait, votes, next, mtch⟩ (by simp only [nodeC, List.setIfInBounds_toArray, List.set_cons_succ, List.set_cons_zero]) rfl rfl rfl rfl rfl)
        have HB5 := Lib.hid (bel_bel HB4.out NR.out.bel (by omega))
        have HZ5 := Lib.hid (HZ4.out.below NR.out.bel (by omega))
        clear hMs hLd hca hrm kr
        go_wp2_with fail
        generalize (w3.setCell ⟨g, 11, none⟩ (.int .i64 0)).setCell ⟨g, 11, none⟩ (.int .i64 2) = w5 at *
        clear kN kN4 fN hmx hwl NR NR0 HN3 HB3 HZ3
        refine (HPC.out w5 N5).mono ?_
        rintro e w6 ⟨rfl, ⟨col6, oA6, oc6, LV, hLV, hN6⟩, hb6⟩
        rw [List.nil_append] at hN6
        have HLV := Lib.hid hLV
        have N6 := Lib.hid hN6
        have HB6 := Lib.hid (bel_bel HB5.out hb6 (by omega))
        have HZ6 := Lib.hid (HZ5.out.below hb6 (by omega))
        clear hLV hN6 hb6
        go_wp2_with fail
        have NF := Lib.hid (N6.out.bel (bel_drew (Below.refl _ _)))
        have HBF := Lib.hid (bel_drew HB6.out)
        have HZF := Lib.hid (HZ6.out.bel (bel_drew (Below.refl _ _)))
        refine wp_region_heldD (S := fun W => Blk W g 53 (nodeC ⟨id, conf, term, vote, role, leader, b, bt, es, snap, commit, 2, wait, votes, next, mtch⟩ { x2 with oA := oA6, oc := oc6 } LV.length)) (by kernel_rfl) ?_
        have hS : Blk (w6.drew) g 53 (nodeC ⟨id, conf, term, vote, role, leader, b, bt, es, snap, commit, 2, wait, votes, next, mtch⟩ { x2 with oA := oA6, oc := oc6 } LV.length) := NF.out.blk
        refine wpAnyH_take (i := 0) (v := .pointer (some ⟨g, 0, none⟩)) rfl (by kernel_rfl) (by kernel_rfl) (by kernel_rfl) (fun _ _ _ h => h) (Or.inl ⟨by rfl, fun W hW => by go_simp⟩) hS ?_
        simp only [Act.put, List.getElem_toArray, List.getElem_cons_zero, List.getElem_cons_succ, List.setIfInBounds_toArray, List.set_cons_zero, List.set_cons_succ]
        refine wpAnyH_take (i := 1) (v := .pointer (some ⟨g, 0, none⟩)) rfl (by kernel_rfl) (by kernel_rfl) (by kernel_rfl) (fun _ _ _ h => h) (Or.inl ⟨by rfl, fun W hW => by go_simp⟩) hS ?_
        simp only [Act.put, List.getElem_toArray, List.getElem_cons_zero, List.getElem_cons_succ, List.setIfInBounds_toArray, List.set_cons_zero, List.set_cons_succ]
        refine wpAnyH_take (i := 2) (v := .pointer (some ⟨g, 0, none⟩)) rfl (by kernel_rfl) (by kernel_rfl) (by kernel_rfl) (fun _ _ _ h => h) (Or.inl ⟨by rfl, fun W hW => by go_simp⟩) hS ?_
        simp only [Act.put, List.getElem_toArray, List.getElem_cons_zero, List.getElem_cons_succ, List.setIfInBounds_toArray, List.set_cons_zero, List.set_cons_succ]
        refine wpAnyH_take (i := 3) (v := .agg (raftL ⟨id, conf, term, vote, role, leader, b, bt, es, snap, commit, 2, wait, votes, next, mtch⟩ { x2 with oA := oA6, oc := oc6 }).toArray) rfl (by kernel_rfl) (by kernel_rfl) (by kernel_rfl) (fun _ _ _ h => h) (yieldsIf_load_mid rfl _ _ rfl g 0 rfl (raftL ⟨id, conf, term, vote, role, leader, b, bt, es, snap, commit, 2, wait, votes, next, mtch⟩ { x2 with oA := oA6, oc := oc6 }) _ (fun W hW => Blk.range hW _ rfl) Tryz.underlying28 rfl infoR) hS ?_
        simp only [Act.put, List.getElem_toArray, List.getElem_cons_zero, List.getElem_cons_succ, List.setIfInBounds_toArray, List.set_cons_zero, List.set_cons_succ]
        refine wpAnyH_take (i := 4) (v := .pointer (some ⟨g, 0, none⟩)) rfl (by kernel_rfl) (by kernel_rfl) (by kernel_rfl) (fun _ _ _ h => h) (Or.inl ⟨by rfl, fun W hW => by go_simp⟩) hS ?_
        simp only [Act.put, List.getElem_toArray, List.getElem_cons_zero, List.getElem_cons_succ, List.setIfInBounds_toArray, List.set_cons_zero, List.set_cons_succ]
        refine wpAnyH_take (i := 5) (v := .pointer (some ⟨g, 0, none⟩)) rfl (by kernel_rfl) (by kernel_rfl) (by kernel_rfl) (fun _ _ _ h => h) (Or.inl ⟨by rfl, fun W hW => by go_simp⟩) hS ?_
        simp only [Act.put, List.getElem_toArray, List.getElem_cons_zero, List.getElem_cons_succ, List.setIfInBounds_toArray, List.set_cons_zero, List.set_cons_succ]
        refine wpAnyH_take (i := 6) (v := .pointer (some ⟨g, 16, none⟩)) rfl (by kernel_rfl) (by kernel_rfl) (by kernel_rfl) (fun _ _ _ h => h) (Or.inl ⟨by rfl, fun W hW => by go_simp⟩) hS ?_
        simp only [Act.put, List.getElem_toArray, List.getElem_cons_zero, List.getElem_cons_succ, List.setIfInBounds_toArray, List.set_cons_zero, List.set_cons_succ]
        refine wpAnyH_take (i := 7) (v := .slice { x2 with oA := oA6, oc := oc6 }.oA LV.length { x2 with oA := oA6, oc := oc6 }.oc) rfl (by kernel_rfl) (by kernel_rfl) (by kernel_rfl) (fun _ _ _ h => h) (Or.inl ⟨by rfl, fun W hW => by
          have h16 : W.cell? ⟨g, 16, none⟩ = some (.slice { x2 with oA := oA6, oc := oc6 }.oA LV.length { x2 with oA := oA6, oc := oc6 }.oc) := Blk.cells hW 16
          clear hW
          go_simp⟩) hS ?_
        simp only [Act.put, List.getElem_toArray, List.getElem_cons_zero, List.getElem_cons_succ, List.setIfInBounds_toArray, List.set_cons_zero, List.set_cons_succ]
        generalize w6.drew = WF at *
        refine wpAnyH_one (i := 8) (by kernel_rfl) rfl rfl ?_
        intro K hK
        simp only [List.getElem_toArray, List.getElem_cons_succ, List.getElem_cons_zero]
        refine wp_store_row _ _ _ rfl (w.heap.size + 1) (raftL ⟨id, conf, term, vote, role, leader, b, bt, es, snap, commit, 2, wait, votes, next, mtch⟩ { x2 with oA := oA6, oc := oc6 }).toArray rfl rfl _ _ HZF.out infoR rfl (raftL_one _ _) (hK _ _ (Blk.rowFar hS hgne3 _) ?_)
        clear hK K
        simp only [Act.put, List.getElem_toArray, List.getElem_cons_zero, List.getElem_cons_succ, List.setIfInBounds_toArray, List.set_cons_zero, List.set_cons_succ]
        have hld := run_loadVarB (P := Tryz.prog) (HZF.out.rowSame (raftL ⟨id, conf, term, vote, role, leader, b, bt, es, snap, commit, 2, wait, votes, next, mtch⟩ { x2 with oA := oA6, oc := oc6 }).toArray) 28 Tryz.underlying28 infoR
        have HRow := Lib.hid (Rest.row1 (NF.out.rest.lowCol) (lowCol_lt hzl.out) (raftL ⟨id, conf, term, vote, role, leader, b, bt, es, snap, commit, 2, wait, votes, next, mtch⟩ { x2 with oA := oA6, oc := oc6 }).toArray)
        have HBR2 := Lib.hid (bel_row HBF.out hz2.out (raftL ⟨id, conf, term, vote, role, leader, b, bt, es, snap, commit, 2, wait, votes, next, mtch⟩ { x2 with oA := oA6, oc := oc6 }).toArray)
        have hS := Blk.rowFar hS hgne3 (raftL ⟨id, conf, term, vote, role, leader, b, bt, es, snap, commit, 2, wait, votes, next, mtch⟩ { x2 with oA := oA6, oc := oc6 }).toArray
        generalize WF.setRow (w.heap.size + 1) (raftL ⟨id, conf, term, vote, role, leader, b, bt, es, snap, commit, 2, wait, votes, next, mtch⟩ { x2 with oA := oA6, oc := oc6 }).toArray = WG at *
        refine wpAnyH_one (i := 9) (by kernel_rfl) rfl rfl ?_
        intro K hK
        go_simp
        refine hK _ _ hS ?_
        clear hK K
        refine ⟨by kernel_rfl, ?_⟩
        go_wp2_with fail
        refine bodyPost_ret (v := .tuple #[raftV ⟨id, conf, term, vote, role, leader, b, bt, es, snap, commit, 2, wait, votes, next, mtch⟩ { x2 with oA := oA6, oc := oc6 }, .slice { x2 with oA := oA6, oc := oc6 }.oA LV.length { x2 with oA := oA6, oc := oc6 }.oc]) (by simp [results, Tryz.results10, asAddr, hld]) rfl ?_
        rw [HQ3.out]
        exact ⟨⟨{ x2 with oA := oA6, oc := oc6 }, lowCol w1.heap.size col6, LV, rfl, HLV.out, HRow.out.low (by omega)⟩, HBR2.out⟩
      · have krb : (role == 2) = false := by rw [beq_eq_false_iff_ne]; exact kr
        have HQ3 := Lib.hid (show q = Rf.stand ⟨id, conf, term, vote, role, leader, b, bt, es, snap, commit, 0, wait, votes, next, mtch⟩ d from by rw [HQ2.out, if_neg kr])
        have HB0 : Hid (Rf.Base ⟨id, conf, term, vote, role, leader, b, bt, es, snap, commit, 0, wait, votes, next, mtch⟩) := Lib.hid { HBR.out with left0 := Int.le_refl _, left1 := by show (0 : Int) ≤ 100; decide }
        clear kr
        go_wp2_with fail
        generalize w3.setCell ⟨g, 11, none⟩ (.int .i64 0) = w4 at *
        clear kN kN4 fN hmx hwl NR HN3 HB3 HZ3
        refine (stand_calls N4 (by simp) HB0 d hd0 hd1).mono ?_
        rintro e w6 ⟨rfl, ⟨col6, x6, LV, _, _, hLV, hN6⟩, hb6⟩
        rw [List.nil_append] at hN6
        obtain ⟨s, hs⟩ : ∃ s, s = (Rf.stand ⟨id, conf, term, vote, role, leader, b, bt, es, snap, commit, 0, wait, votes, next, mtch⟩ d).1 := ⟨_, rfl⟩
        obtain ⟨Ms, hMs⟩ : ∃ Ms, Ms = (Rf.stand ⟨id, conf, term, vote, role, leader, b, bt, es, snap, commit, 0, wait, votes, next, mtch⟩ d).2 := ⟨_, rfl⟩
        rw [← hs] at hN6
        rw [← hMs] at hLV
        have HQ6 := Lib.hid (show q = (s, Ms) from by rw [HQ3.out, hs, hMs])
        have HLV := Lib.hid hLV
        have N6 := Lib.hid hN6
        have HB6 := Lib.hid (bel_bel HB4.out hb6 (by omega))
        have HZ6 := Lib.hid (HZ4.out.below hb6 (by omega))
        clear hs hMs hLV hN6 hb6
        go_wp2_with fail
        have NF := Lib.hid (N6.out.bel (bel_drew (Below.refl _ _)))
        have HBF := Lib.hid (bel_drew HB6.out)
        have HZF := Lib.hid (HZ6.out.bel (bel_drew (Below.refl _ _)))
        refine wp_region_heldD (S := fun W => Blk W g 53 (nodeC s x6 LV.length)) (by kernel_rfl) ?_
        have hS : Blk (w6.drew) g 53 (nodeC s x6 LV.length) := NF.out.blk
        refine wpAnyH_take (i := 0) (v := .pointer (some ⟨g, 0, none⟩)) rfl (by kernel_rfl) (by kernel_rfl) (by kernel_rfl) (fun _ _ _ h => h) (Or.inl ⟨by rfl, fun W hW => by go_simp⟩) hS ?_
        simp only [Act.put, List.getElem_toArray, List.getElem_cons_zero, List.getElem_cons_succ, List.setIfInBounds_toArray, List.set_cons_zero, List.set_cons_succ]
        refine wpAnyH_take (i := 1) (v := .pointer (some ⟨g, 0, none⟩)) rfl (by kernel_rfl) (by kernel_rfl) (by kernel_rfl) (fun _ _ _ h => h) (Or.inl ⟨by rfl, fun W hW => by go_simp⟩) hS ?_
        simp only [Act.put, List.getElem_toArray, List.getElem_cons_zero, List.getElem_cons_succ, List.setIfInBounds_toArray, List.set_cons_zero, List.set_cons_succ]
        refine wpAnyH_take (i := 2) (v := .pointer (some ⟨g, 0, none⟩)) rfl (by kernel_rfl) (by kernel_rfl) (by kernel_rfl) (fun _ _ _ h => h) (Or.inl ⟨by rfl, fun W hW => by go_simp⟩) hS ?_
        simp only [Act.put, List.getElem_toArray, List.getElem_cons_zero, List.getElem_cons_succ, List.setIfInBounds_toArray, List.set_cons_zero, List.set_cons_succ]
        refine wpAnyH_take (i := 3) (v := .agg (raftL s x6).toArray) rfl (by kernel_rfl) (by kernel_rfl) (by kernel_rfl) (fun _ _ _ h => h) (yieldsIf_load_mid rfl _ _ rfl g 0 rfl (raftL s x6) _ (fun W hW => Blk.range hW _ rfl) Tryz.underlying28 rfl infoR) hS ?_
        simp only [Act.put, List.getElem_toArray, List.getElem_cons_zero, List.getElem_cons_succ, List.setIfInBounds_toArray, List.set_cons_zero, List.set_cons_succ]
        refine wpAnyH_take (i := 4) (v := .pointer (some ⟨g, 0, none⟩)) rfl (by kernel_rfl) (by kernel_rfl) (by kernel_rfl) (fun _ _ _ h => h) (Or.inl ⟨by rfl, fun W hW => by go_simp⟩) hS ?_
        simp only [Act.put, List.getElem_toArray, List.getElem_cons_zero, List.getElem_cons_succ, List.setIfInBounds_toArray, List.set_cons_zero, List.set_cons_succ]
        refine wpAnyH_take (i := 5) (v := .pointer (some ⟨g, 0, none⟩)) rfl (by kernel_rfl) (by kernel_rfl) (by kernel_rfl) (fun _ _ _ h => h) (Or.inl ⟨by rfl, fun W hW => by go_simp⟩) hS ?_
        simp only [Act.put, List.getElem_toArray, List.getElem_cons_zero, List.getElem_cons_succ, List.setIfInBounds_toArray, List.set_cons_zero, List.set_cons_succ]
        refine wpAnyH_take (i := 6) (v := .pointer (some ⟨g, 16, none⟩)) rfl (by kernel_rfl) (by kernel_rfl) (by kernel_rfl) (fun _ _ _ h => h) (Or.inl ⟨by rfl, fun W hW => by go_simp⟩) hS ?_
        simp only [Act.put, List.getElem_toArray, List.getElem_cons_zero, List.getElem_cons_succ, List.setIfInBounds_toArray, List.set_cons_zero, List.set_cons_succ]
        refine wpAnyH_take (i := 7) (v := .slice x6.oA LV.length x6.oc) rfl (by kernel_rfl) (by kernel_rfl) (by kernel_rfl) (fun _ _ _ h => h) (Or.inl ⟨by rfl, fun W hW => by
          have h16 : W.cell? ⟨g, 16, none⟩ = some (.slice x6.oA LV.length x6.oc) := Blk.cells hW 16
          clear hW
          go_simp⟩) hS ?_
        simp only [Act.put, List.getElem_toArray, List.getElem_cons_zero, List.getElem_cons_succ, List.setIfInBounds_toArray, List.set_cons_zero, List.set_cons_succ]
        generalize w6.drew = WF at *
        refine wpAnyH_one (i := 8) (by kernel_rfl) rfl rfl ?_
        intro K hK
        simp only [List.getElem_toArray, List.getElem_cons_succ, List.getElem_cons_zero]
        refine wp_store_row _ _ _ rfl (w.heap.size + 1) (raftL s x6).toArray rfl rfl _ _ HZF.out infoR rfl (raftL_one _ _) (hK _ _ (Blk.rowFar hS hgne3 _) ?_)
        clear hK K
        simp only [Act.put, List.getElem_toArray, List.getElem_cons_zero, List.getElem_cons_succ, List.setIfInBounds_toArray, List.set_cons_zero, List.set_cons_succ]
        have hld := run_loadVarB (P := Tryz.prog) (HZF.out.rowSame (raftL s x6).toArray) 28 Tryz.underlying28 infoR
        have HRow := Lib.hid (Rest.row1 (NF.out.rest.lowCol) (lowCol_lt hzl.out) (raftL s x6).toArray)
        have HBR2 := Lib.hid (bel_row HBF.out hz2.out (raftL s x6).toArray)
        have hS := Blk.rowFar hS hgne3 (raftL s x6).toArray
        generalize WF.setRow (w.heap.size + 1) (raftL s x6).toArray = WG at *
        refine wpAnyH_one (i := 9) (by kernel_rfl) rfl rfl ?_
        intro K hK
        go_simp
        refine hK _ _ hS ?_
        clear hK K
        refine ⟨by kernel_rfl, ?_⟩
        go_wp2_with fail
        refine bodyPost_ret (v := .tuple #[raftV s x6, .slice x6.oA LV.length x6.oc]) (by simp [results, Tryz.results10, asAddr, hld]) rfl ?_
        rw [HQ6.out]
        exact ⟨⟨x6, lowCol w1.heap.size col6, LV, rfl, HLV.out, HRow.out.low (by omega)⟩, HBR2.out⟩
end Go.Proofs.YtdladjgdhnkkcaaGreat
