
/-
  Contract of the reference of layer 14: a moment goes by.
  Conditions: the node can be read.
-/
import Derived.Test.YtdladjgdhnkkcaaGreatZRg6
import Derived.Test.YtdladjgdhnkkcaaGreatZRg9
import Derived.Test.YtdladjgdhnkkcaaGreatZRf35
import Derived.Test.YtdladjgdhnkkcaaGreatZRf26
import Derived.Deep.Cut
namespace Go.Proofs.YtdladjgdhnkkcaaGreat
open Go.RowKit
set_option linter.unusedVariables false
set_option linter.unusedSimpArgs false
set_option maxHeartbeats 4000000

theorem infoO : (Tryz.prog.info? 36).map (·.size) = some 17 := by kernel_rfl
theorem nodeC_one (r : Nod) (x : NdX) (n : Nat) : (nodeC r x n).all (·.oneCell') = true := all_oneCell_toArray (fun v hv => by
  simp only [List.mem_cons, List.not_mem_nil, or_false] at hv
  rcases hv with rfl | rfl | rfl | rfl | rfl | rfl | rfl | rfl | rfl | rfl | rfl | rfl | rfl | rfl | rfl | rfl | rfl <;> rfl)
/-- what the reference answers: a node and what it sends -/
def AnsO (w : World) (r : Nod) (Ms : List Msg) (e : Ending) (w' : World) : Prop :=
  (∃ x col LV, e = .returned (.agg (nodeC r x LV.length)) ∧ LV.map (·.m) = Ms ∧ Rest w.heap.size col r x LV w') ∧ Below w.heap.size w w'

set_option maxRecDepth 100000 in
theorem rtick_calls (r : Nod) (x : NdX) (w : World) (h : Hid (RdR w r x)) (d : Int) (hd0 : -9223372036854775808 ≤ d) (hd1 : d ≤ 9223372036854775807) :
    Calls Tryz.prog 11 #[raftV r x, .int .i64 d] w (AnsO w (Rf.tick r d).1 (Rf.tick r d).2) := by
  obtain ⟨q, hq⟩ : ∃ q, q = Rf.tick r d := ⟨_, rfl⟩
  rw [← hq]
  have HQ := Lib.hid hq
  unfold Rf.tick at HQ
  clear hq
  have HCP := Lib.hid (fun (W : World) (hb : Below w.heap.size w W) => copy14_calls r x W (Lib.hid (h.out.bel hb)))
  have HCK := Lib.hid (fun (W : World) (hb : Below w.heap.size w W) => rfcheck14_calls r x W (Lib.hid (h.out.bel hb)))
  have HCI := Lib.hid (Rf.chk_iff r)
  obtain ⟨c1, hc1⟩ : ∃ c1, c1 = Rf.chk r := ⟨_, rfl⟩
  rw [← hc1] at HCK HQ HCI
  clear hc1
  obtain ⟨id, conf, term, vote, role, leader, b, bt, es, snap, commit, left, wait, votes, next, mtch⟩ := r
  obtain ⟨cA, cc, eA, ec, vA, vc, nA, nc, mA, mc, oA, oc⟩ := x
  have HB1 := Lib.hid (bel_new (bel_new (Below.refl w.heap.size w) (.cells #[.int .i64 id, .slice cA conf.length cc, .int .i64 term, .int .i64 vote, .int .i64 role, .int .i64 leader, .int .i64 b, .int .i64 bt, .slice eA es.length ec, .string snap, .int .i64 commit, .int .i64 left, .int .i64 wait, .slice vA votes.length vc, .slice nA next.length nc, .slice mA mtch.length mc] 28)) (.cells #[.int .i64 0, .slice none 0 0, .int .i64 0, .int .i64 0, .int .i64 0, .int .i64 0, .int .i64 0, .int .i64 0, .slice none 0 0, .string ⟨#[]⟩, .int .i64 0, .int .i64 0, .int .i64 0, .slice none 0 0, .slice none 0 0, .slice none 0 0, .slice none 0 0] 36))
  have HK1 := Lib.hid ((Blk.new w 28 #[.int .i64 id, .slice cA conf.length cc, .int .i64 term, .int .i64 vote, .int .i64 role, .int .i64 leader, .int .i64 b, .int .i64 bt, .slice eA es.length ec, .string snap, .int .i64 commit, .int .i64 left, .int .i64 wait, .slice vA votes.length vc, .slice nA next.length nc, .slice mA mtch.length mc]).alloc (.cells #[.int .i64 0, .slice none 0 0, .int .i64 0, .int .i64 0, .int .i64 0, .int .i64 0, .int .i64 0, .int .i64 0, .slice none 0 0, .string ⟨#[]⟩, .int .i64 0, .int .i64 0, .int .i64 0, .slice none 0 0, .slice none 0 0, .slice none 0 0, .slice none 0 0] 36))
  have HZ1 := Lib.hid (Blk.new2 w (.cells #[.int .i64 id, .slice cA conf.length cc, .int .i64 term, .int .i64 vote, .int .i64 role, .int .i64 leader, .int .i64 b, .int .i64 bt, .slice eA es.length ec, .string snap, .int .i64 commit, .int .i64 left, .int .i64 wait, .slice vA votes.length vc, .slice nA next.length nc, .slice mA mtch.length mc] 28) 36 #[.int .i64 0, .slice none 0 0, .int .i64 0, .int .i64 0, .int .i64 0, .int .i64 0, .int .i64 0, .int .i64 0, .slice none 0 0, .string ⟨#[]⟩, .int .i64 0, .int .i64 0, .int .i64 0, .slice none 0 0, .slice none 0 0, .slice none 0 0, .slice none 0 0])
  have HS1 : Hid (w.heap.size + 2 = ((w.alloc (.cells #[.int .i64 id, .slice cA conf.length cc, .int .i64 term, .int .i64 vote, .int .i64 role, .int .i64 leader, .int .i64 b, .int .i64 bt, .slice eA es.length ec, .string snap, .int .i64 commit, .int .i64 left, .int .i64 wait, .slice vA votes.length vc, .slice nA next.length nc, .slice mA mtch.length mc] 28)).alloc (.cells #[.int .i64 0, .slice none 0 0, .int .i64 0, .int .i64 0, .int .i64 0, .int .i64 0, .int .i64 0, .int .i64 0, .slice none 0 0, .string ⟨#[]⟩, .int .i64 0, .int .i64 0, .int .i64 0, .slice none 0 0, .slice none 0 0, .slice none 0 0, .slice none 0 0] 36)).heap.size) := Lib.hid (by rw [size_alloc, size_alloc])
  go_enter Tryz.func11, Tryz.ntmps11
  go_upto_region 1 with (fail)
  generalize (w.alloc (.cells #[.int .i64 id, .slice cA conf.length cc, .int .i64 term, .int .i64 vote, .int .i64 role, .int .i64 leader, .int .i64 b, .int .i64 bt, .slice eA es.length ec, .string snap, .int .i64 commit, .int .i64 left, .int .i64 wait, .slice vA votes.length vc, .slice nA next.length nc, .slice mA mtch.length mc] 28)).alloc (.cells #[.int .i64 0, .slice none 0 0, .int .i64 0, .int .i64 0, .int .i64 0, .int .i64 0, .int .i64 0, .int .i64 0, .slice none 0 0, .string ⟨#[]⟩, .int .i64 0, .int .i64 0, .int .i64 0, .slice none 0 0, .slice none 0 0, .slice none 0 0, .slice none 0 0] 36) = w1 at *
  have HLO : Hid (w.heap.size + 1 < w1.heap.size) := Lib.hid (by have := HS1.out; omega)
  have HLO2 : Hid (w.heap.size ≤ w1.heap.size) := Lib.hid (by have := HS1.out; omega)
  go_wp2_with (refine wpList_loadB rfl 28 (.tmp 2) rfl w.heap.size rfl HK1.out Tryz.underlying28 infoR ?_)
  refine (HCP.out w1 HB1.out).mono ?_
  rintro e w2 ⟨⟨x2, col2, rfl, hR2⟩, hb2⟩
  obtain ⟨c2, cc2, e2, ec2, v2, vc2, n2, nc2, m2, mc2, o2, oc2⟩ := x2
  have HB2 := Lib.hid (bel_tr HB1.out hb2)
  have HB3 := Lib.hid (bel_new HB2.out (.cells #[.int .i64 id, .slice c2 conf.length cc2, .int .i64 term, .int .i64 vote, .int .i64 role, .int .i64 leader, .int .i64 b, .int .i64 bt, .slice e2 es.length ec2, .string snap, .int .i64 commit, .int .i64 left, .int .i64 wait, .slice v2 votes.length vc2, .slice n2 next.length nc2, .slice m2 mtch.length mc2, .slice none 0 0] 36))
  have HK3 := Lib.hid ((HK1.out.bel hb2).alloc (.cells #[.int .i64 id, .slice c2 conf.length cc2, .int .i64 term, .int .i64 vote, .int .i64 role, .int .i64 leader, .int .i64 b, .int .i64 bt, .slice e2 es.length ec2, .string snap, .int .i64 commit, .int .i64 left, .int .i64 wait, .slice v2 votes.length vc2, .slice n2 next.length nc2, .slice m2 mtch.length mc2, .slice none 0 0] 36))
  have HZ3 := Lib.hid ((HZ1.out.bel hb2).alloc (.cells #[.int .i64 id, .slice c2 conf.length cc2, .int .i64 term, .int .i64 vote, .int .i64 role, .int .i64 leader, .int .i64 b, .int .i64 bt, .slice e2 es.length ec2, .string snap, .int .i64 commit, .int .i64 left, .int .i64 wait, .slice v2 votes.length vc2, .slice n2 next.length nc2, .slice m2 mtch.length mc2, .slice none 0 0] 36))
  have HG := Lib.hid hb2.size
  have N3 : Hid (Nd 36 w1.heap.size w2.heap.size (recol col2 w2.heap.size 1) ⟨id, conf, term, vote, role, leader, b, bt, es, snap, commit, left, wait, votes, next, mtch⟩ ⟨c2, cc2, e2, ec2, v2, vc2, n2, nc2, m2, mc2, none, 0⟩ [] (w2.alloc (.cells #[.int .i64 id, .slice c2 conf.length cc2, .int .i64 term, .int .i64 vote, .int .i64 role, .int .i64 leader, .int .i64 b, .int .i64 bt, .slice e2 es.length ec2, .string snap, .int .i64 commit, .int .i64 left, .int .i64 wait, .slice v2 votes.length vc2, .slice n2 next.length nc2, .slice m2 mtch.length mc2, .slice none 0 0] 36))) := Lib.hid ⟨HG.out, recol_new (Nat.le_refl _), Blk.new w2 _ _, (hR2.recol 1).bel (bel_new (Below.refl _ _) _)⟩
  clear hR2 hb2 HCP HB1 HK1 HZ1 HB2 HS1
  go_upto_region 2 with (fail)
  obtain ⟨g5, hg5⟩ : ∃ g5, g5 = w2.heap.size := ⟨_, rfl⟩
  generalize w2.alloc (.cells #[.int .i64 id, .slice c2 conf.length cc2, .int .i64 term, .int .i64 vote, .int .i64 role, .int .i64 leader, .int .i64 b, .int .i64 bt, .slice e2 es.length ec2, .string snap, .int .i64 commit, .int .i64 left, .int .i64 wait, .slice v2 votes.length vc2, .slice n2 next.length nc2, .slice m2 mtch.length mc2, .slice none 0 0] 36) = w3 at *
  generalize recol col2 w2.heap.size 1 = col5 at *
  rw [← hg5] at N3 HG ⊢
  have HNE : Hid (w.heap.size + 1 ≠ g5) := Lib.hid (by have := HG.out; have := HLO.out; omega)
  clear hg5
  go_wp2_with (refine wpList_loadB rfl 28 (.tmp 2) rfl w.heap.size rfl HK3.out Tryz.underlying28 infoR ?_)
  refine (HCK.out w3 HB3.out).mono ?_
  rintro e w4 ⟨rfl, hb4⟩
  have N4 := Lib.hid (N3.out.bel hb4)
  have HB4 := Lib.hid (bel_tr HB3.out hb4)
  have HZ4 := Lib.hid (HZ3.out.bel hb4)
  clear hb4 N3 HB3 HZ3 HK3 HCK
  cases c1 with
  | false =>
    have HQ3 := Lib.hid (show q = (⟨id, conf, term, vote, role, leader, b, bt, es, snap, commit, left, wait, votes, next, mtch⟩, []) from by rw [HQ.out]; rfl)
    go_wp2_with (first
      | (refine wpList_loadB rfl 36 (.tmp 5) rfl g5 rfl N4.out.blk Tryz.underlying36 infoO ?_)
      | (refine wpList_storeB rfl 36 (.tmp 4) (.tmp 12) rfl (w.heap.size + 1) (nodeC ⟨id, conf, term, vote, role, leader, b, bt, es, snap, commit, left, wait, votes, next, mtch⟩ ⟨c2, cc2, e2, ec2, v2, vc2, n2, nc2, m2, mc2, none, 0⟩ (([] : List MsgV)).length) rfl rfl HZ4.out infoO rfl (nodeC_one _ _ _) ?_))
    have hld := run_loadVarB (P := Tryz.prog) (HZ4.out.rowSame (nodeC ⟨id, conf, term, vote, role, leader, b, bt, es, snap, commit, left, wait, votes, next, mtch⟩ ⟨c2, cc2, e2, ec2, v2, vc2, n2, nc2, m2, mc2, none, 0⟩ (([] : List MsgV)).length)) 36 Tryz.underlying36 infoO
    simp only [List.length_nil] at hld
    refine bodyPost_ret (v := .agg (nodeC ⟨id, conf, term, vote, role, leader, b, bt, es, snap, commit, left, wait, votes, next, mtch⟩ ⟨c2, cc2, e2, ec2, v2, vc2, n2, nc2, m2, mc2, none, 0⟩ (([] : List MsgV)).length)) (by simp [results, Tryz.results11, asAddr, hld, Act.put]) rfl ?_
    rw [HQ3.out]
    exact ⟨⟨⟨c2, cc2, e2, ec2, v2, vc2, n2, nc2, m2, mc2, none, 0⟩, _, ([] : List MsgV), rfl, rfl, (Rest.row1 N4.out.rest.lowCol (lowCol_lt HLO.out) _).low HLO2.out⟩, bel_row HB4.out (Nat.le_succ _) _⟩
  | true =>
    have HCI2 := HCI.out.1 rfl
    have HBR := Lib.hid HCI2.1
    have HRL := Lib.hid HCI2.2
    have hl0 : 0 ≤ left := HCI2.1.left0
    have hl1 : left ≤ 100 := HCI2.1.left1
    have hc4 : ∀ i, w4.cell? ⟨g5, i, none⟩ = (nodeC ⟨id, conf, term, vote, role, leader, b, bt, es, snap, commit, left, wait, votes, next, mtch⟩ ⟨c2, cc2, e2, ec2, v2, vc2, n2, nc2, m2, mc2, none, 0⟩ ([] : List MsgV).length)[i]? := N4.out.blk.cells
    dsimp only [nodeC] at hc4
    have hgl4 := N4.out.blk.lt
    have hgf4 := N4.out.blk.free
    clear HCI2 HCI
    by_cases k1 : 1 < left
    · have HQ3 := Lib.hid (show q = (⟨id, conf, term, vote, role, leader, b, bt, es, snap, commit, left - 1, wait, votes, next, mtch⟩, []) from by rw [HQ.out]; simp only [if_true]; rw [if_pos k1])
      have p1 : 0 < left := by omega
      have p2 : 0 < left - 1 := by omega
      have pw : IntKind.i64.wrap (left - 1) = left - 1 := IntWalk.i64_in _ (by omega)
      have NR := Lib.hid (N4.out.run.set 11 (.int .i64 (left - 1)))
      have N6 := Lib.hid (NR.out.nd ⟨id, conf, term, vote, role, leader, b, bt, es, snap, commit, left - 1, wait, votes, next, mtch⟩ (by simp only [nodeC, List.setIfInBounds_toArray, List.set_cons_succ, List.set_cons_zero]) rfl rfl rfl rfl rfl)
      have HB6 := Lib.hid (HB4.out.trans (NR.out.bel.mono HLO2.out))
      have HZ6 := Lib.hid (HZ4.out.far (p := ⟨g5, 11, none⟩) HNE.out (.int .i64 (left - 1)))
      go_upto_region 7 with (fail)
      generalize w4.setCell ⟨g5, 11, none⟩ (.int .i64 (left - 1)) = w6 at *
      clear hc4 hgl4 hgf4 p1 p2 pw k1 NR N4 HB4 HZ4
      go_wp2_with (first
        | (refine wpList_loadB rfl 36 (.tmp 5) rfl g5 rfl N6.out.blk Tryz.underlying36 infoO ?_)
        | (refine wpList_storeB rfl 36 (.tmp 4) (.tmp 27) rfl (w.heap.size + 1) (nodeC ⟨id, conf, term, vote, role, leader, b, bt, es, snap, commit, left - 1, wait, votes, next, mtch⟩ ⟨c2, cc2, e2, ec2, v2, vc2, n2, nc2, m2, mc2, none, 0⟩ (([] : List MsgV)).length) rfl rfl HZ6.out infoO rfl (nodeC_one _ _ _) ?_))
      have hld := run_loadVarB (P := Tryz.prog) (HZ6.out.rowSame (nodeC ⟨id, conf, term, vote, role, leader, b, bt, es, snap, commit, left - 1, wait, votes, next, mtch⟩ ⟨c2, cc2, e2, ec2, v2, vc2, n2, nc2, m2, mc2, none, 0⟩ (([] : List MsgV)).length)) 36 Tryz.underlying36 infoO
      simp only [List.length_nil] at hld
      refine bodyPost_ret (v := .agg (nodeC ⟨id, conf, term, vote, role, leader, b, bt, es, snap, commit, left - 1, wait, votes, next, mtch⟩ ⟨c2, cc2, e2, ec2, v2, vc2, n2, nc2, m2, mc2, none, 0⟩ (([] : List MsgV)).length)) (by simp [results, Tryz.results11, asAddr, hld, Act.put]) rfl ?_
      rw [HQ3.out]
      exact ⟨⟨⟨c2, cc2, e2, ec2, v2, vc2, n2, nc2, m2, mc2, none, 0⟩, _, ([] : List MsgV), rfl, rfl, (Rest.row1 N6.out.rest.lowCol (lowCol_lt HLO.out) _).low HLO2.out⟩, bel_row HB6.out (Nat.le_succ _) _⟩
    · have HQ2 := Lib.hid (show q = if role = 2 then (⟨id, conf, term, vote, role, leader, b, bt, es, snap, commit, 2, wait, votes, next, mtch⟩, Rf.pushAll ⟨id, conf, term, vote, role, leader, b, bt, es, snap, commit, 2, wait, votes, next, mtch⟩) else Rf.stand ⟨id, conf, term, vote, role, leader, b, bt, es, snap, commit, 0, wait, votes, next, mtch⟩ d from by rw [HQ.out]; simp only [if_true]; rw [if_neg k1])
      by_cases k0 : left = 1
      · subst k0
        have NR := Lib.hid (N4.out.run.set 11 (.int .i64 0))
        have N6 := Lib.hid (NR.out.nd ⟨id, conf, term, vote, role, leader, b, bt, es, snap, commit, 0, wait, votes, next, mtch⟩ (by simp only [nodeC, List.setIfInBounds_toArray, List.set_cons_succ, List.set_cons_zero]) rfl rfl rfl rfl rfl)
        have HB6 := Lib.hid (HB4.out.trans (NR.out.bel.mono HLO2.out))
        have HZ6 := Lib.hid (HZ4.out.far (p := ⟨g5, 11, none⟩) HNE.out (.int .i64 0))
        go_upto_region 8 with (fail)
        generalize w4.setCell ⟨g5, 11, none⟩ (.int .i64 0) = w6 at *
        clear hc4 hgl4 hgf4 k1 NR N4 HB4 HZ4
        have hc6 : ∀ i, w6.cell? ⟨g5, i, none⟩ = (nodeC ⟨id, conf, term, vote, role, leader, b, bt, es, snap, commit, 0, wait, votes, next, mtch⟩ ⟨c2, cc2, e2, ec2, v2, vc2, n2, nc2, m2, mc2, none, 0⟩ ([] : List MsgV).length)[i]? := N6.out.blk.cells
        dsimp only [nodeC] at hc6
        have hgl6 := N6.out.blk.lt
        have hgf6 := N6.out.blk.free
        -- a leader, or none
        by_cases kr : role = 2
        · have krb : (role == 2) = true := by rw [beq_iff_eq]; exact kr
          obtain ⟨Ms, hMs⟩ : ∃ Ms, Ms = Rf.pushAll ⟨id, conf, term, vote, role, leader, b, bt, es, snap, commit, 2, wait, votes, next, mtch⟩ := ⟨_, rfl⟩
          have HQ3 := Lib.hid (show q = (⟨id, conf, term, vote, role, leader, b, bt, es, snap, commit, 2, wait, votes, next, mtch⟩, Ms) from by rw [HQ2.out, if_pos kr, hMs])
          have hLd : Rf.Lead ⟨id, conf, term, vote, role, leader, b, bt, es, snap, commit, 1, wait, votes, next, mtch⟩ := by
            rcases HRL.out with ⟨a, _⟩ | ⟨a, _⟩ | ⟨_, _, a⟩
            · simp only at a; omega
            · simp only at a; omega
            · exact a
          have hca := Qm.chk_asc HBR.out.conf
          have hrm := Tr.chk_rim HBR.out.trail
          have HPC := Lib.hid (fun (W : World) (N : Hid (Nd 36 w1.heap.size g5 col5 ⟨id, conf, term, vote, role, leader, b, bt, es, snap, commit, 2, wait, votes, next, mtch⟩ ⟨c2, cc2, e2, ec2, v2, vc2, n2, nc2, m2, mc2, none, 0⟩ [] W)) => rpushAll_calls N (by simp) (by have := hca.2.1; simpa using this) (by have := hca.2.2; simpa using this) hLd.next hrm.1 hrm.2.2.2.2.2.1 (Lib.hid (fun i hi => by have h1 := (hLd.nums i hi).2.2.2; have h2 := hrm.2.2.2.2.2.2; have h3 := hrm.2.2.2.1; simp only at h1 h2 h3 ⊢; omega)))
          rw [← hMs] at HPC
          have NR := Lib.hid (N6.out.run.set 11 (.int .i64 2))
          have N7 := Lib.hid (NR.out.nd ⟨id, conf, term, vote, role, leader, b, bt, es, snap, commit, 2, wait, votes, next, mtch⟩ (by simp only [nodeC, List.setIfInBounds_toArray, List.set_cons_succ, List.set_cons_zero]) rfl rfl rfl rfl rfl)
          have HB7 := Lib.hid (HB6.out.trans (NR.out.bel.mono HLO2.out))
          have HZ7 := Lib.hid (HZ6.out.far (p := ⟨g5, 11, none⟩) HNE.out (.int .i64 2))
          clear hMs kr hLd hca hrm
          go_upto_region 10 with (fail)
          generalize w6.setCell ⟨g5, 11, none⟩ (.int .i64 2) = w7 at *
          clear hc6 hgl6 hgf6
          go_wp2_with fail
          refine (HPC.out w7 N7).mono ?_
          rintro e w8 ⟨rfl, ⟨col8, oA8, oc8, LV, hLV, hN8⟩, hb8⟩
          rw [List.nil_append] at hN8
          have N8 := Lib.hid hN8
          have HLV := Lib.hid hLV
          have HB8 := Lib.hid (HB7.out.trans (hb8.mono HLO2.out))
          have HZ8 := Lib.hid (HZ7.out.below hb8 HLO.out)
          clear hN8 hLV hb8
          go_wp2_with (first
            | (refine wpList_loadB rfl 36 (.tmp 5) rfl g5 rfl N8.out.blk Tryz.underlying36 infoO ?_)
            | (refine wpList_storeB rfl 36 (.tmp 4) (.tmp 37) rfl (w.heap.size + 1) (nodeC ⟨id, conf, term, vote, role, leader, b, bt, es, snap, commit, 2, wait, votes, next, mtch⟩ ⟨c2, cc2, e2, ec2, v2, vc2, n2, nc2, m2, mc2, oA8, oc8⟩ (LV).length) rfl rfl HZ8.out infoO rfl (nodeC_one _ _ _) ?_))
          have hld := run_loadVarB (P := Tryz.prog) (HZ8.out.rowSame (nodeC ⟨id, conf, term, vote, role, leader, b, bt, es, snap, commit, 2, wait, votes, next, mtch⟩ ⟨c2, cc2, e2, ec2, v2, vc2, n2, nc2, m2, mc2, oA8, oc8⟩ (LV).length)) 36 Tryz.underlying36 infoO
          refine bodyPost_ret (v := .agg (nodeC ⟨id, conf, term, vote, role, leader, b, bt, es, snap, commit, 2, wait, votes, next, mtch⟩ ⟨c2, cc2, e2, ec2, v2, vc2, n2, nc2, m2, mc2, oA8, oc8⟩ (LV).length)) (by simp [results, Tryz.results11, asAddr, hld, Act.put]) rfl ?_
          rw [HQ3.out]
          exact ⟨⟨⟨c2, cc2, e2, ec2, v2, vc2, n2, nc2, m2, mc2, oA8, oc8⟩, _, LV, rfl, HLV.out, (Rest.row1 N8.out.rest.lowCol (lowCol_lt HLO.out) _).low HLO2.out⟩, bel_row HB8.out (Nat.le_succ _) _⟩
        · have krb : (role == 2) = false := by rw [beq_eq_false_iff_ne]; exact kr
          have HQ3 := Lib.hid (show q = Rf.stand ⟨id, conf, term, vote, role, leader, b, bt, es, snap, commit, 0, wait, votes, next, mtch⟩ d from by rw [HQ2.out, if_neg kr])
          have HB0 : Hid (Rf.Base ⟨id, conf, term, vote, role, leader, b, bt, es, snap, commit, 0, wait, votes, next, mtch⟩) := Lib.hid { HBR.out with left0 := Int.le_refl _, left1 := by show (0 : Int) ≤ 100; decide }
          obtain ⟨qs, hqs⟩ : ∃ qs, qs = Rf.stand ⟨id, conf, term, vote, role, leader, b, bt, es, snap, commit, 0, wait, votes, next, mtch⟩ d := ⟨_, rfl⟩
          have HSC := Lib.hid (rstand_calls N6 (by simp) HB0 d hd0 hd1)
          rw [← hqs] at HSC HQ3
          obtain ⟨s8, Ms⟩ := qs
          clear hqs kr
          go_wp2_with fail
          refine HSC.out.mono ?_
          rintro e w8 ⟨rfl, ⟨col8, x8, LV, -, -, hLV, hN8⟩, hb8⟩
          rw [List.nil_append] at hN8
          have N8 := Lib.hid hN8
          have HLV := Lib.hid hLV
          have HB8 := Lib.hid (HB6.out.trans (hb8.mono HLO2.out))
          have HZ8 := Lib.hid (HZ6.out.below hb8 HLO.out)
          clear hN8 hLV hb8 hc6 hgl6 hgf6
          go_wp2_with (first
            | (refine wpList_loadB rfl 36 (.tmp 5) rfl g5 rfl N8.out.blk Tryz.underlying36 infoO ?_)
            | (refine wpList_storeB rfl 36 (.tmp 4) (.tmp 37) rfl (w.heap.size + 1) (nodeC s8 x8 (LV).length) rfl rfl HZ8.out infoO rfl (nodeC_one _ _ _) ?_))
          have hld := run_loadVarB (P := Tryz.prog) (HZ8.out.rowSame (nodeC s8 x8 (LV).length)) 36 Tryz.underlying36 infoO
          refine bodyPost_ret (v := .agg (nodeC s8 x8 (LV).length)) (by simp [results, Tryz.results11, asAddr, hld, Act.put]) rfl ?_
          rw [HQ3.out]
          exact ⟨⟨x8, _, LV, rfl, HLV.out, (Rest.row1 N8.out.rest.lowCol (lowCol_lt HLO.out) _).low HLO2.out⟩, bel_row HB8.out (Nat.le_succ _) _⟩
      · obtain rfl : left = 0 := by omega
        go_upto_region 8 with (fail)
        have hc6 := hc4
        have hgl6 := hgl4
        have hgf6 := hgf4
        have N6 := N4
        have HB6 := HB4
        have HZ6 := HZ4
        clear hc4 hgl4 hgf4 k1 k0 N4 HB4 HZ4
        obtain ⟨w6, hw6⟩ : ∃ w6, w6 = w4 := ⟨_, rfl⟩
        subst hw6
        -- a leader, or none
        by_cases kr : role = 2
        · have krb : (role == 2) = true := by rw [beq_iff_eq]; exact kr
          obtain ⟨Ms, hMs⟩ : ∃ Ms, Ms = Rf.pushAll ⟨id, conf, term, vote, role, leader, b, bt, es, snap, commit, 2, wait, votes, next, mtch⟩ := ⟨_, rfl⟩
          have HQ3 := Lib.hid (show q = (⟨id, conf, term, vote, role, leader, b, bt, es, snap, commit, 2, wait, votes, next, mtch⟩, Ms) from by rw [HQ2.out, if_pos kr, hMs])
          have hLd : Rf.Lead ⟨id, conf, term, vote, role, leader, b, bt, es, snap, commit, 0, wait, votes, next, mtch⟩ := by
            rcases HRL.out with ⟨a, _⟩ | ⟨a, _⟩ | ⟨_, _, a⟩
            · simp only at a; omega
            · simp only at a; omega
            · exact a
          have hca := Qm.chk_asc HBR.out.conf
          have hrm := Tr.chk_rim HBR.out.trail
          have HPC := Lib.hid (fun (W : World) (N : Hid (Nd 36 w1.heap.size g5 col5 ⟨id, conf, term, vote, role, leader, b, bt, es, snap, commit, 2, wait, votes, next, mtch⟩ ⟨c2, cc2, e2, ec2, v2, vc2, n2, nc2, m2, mc2, none, 0⟩ [] W)) => rpushAll_calls N (by simp) (by have := hca.2.1; simpa using this) (by have := hca.2.2; simpa using this) hLd.next hrm.1 hrm.2.2.2.2.2.1 (Lib.hid (fun i hi => by have h1 := (hLd.nums i hi).2.2.2; have h2 := hrm.2.2.2.2.2.2; have h3 := hrm.2.2.2.1; simp only at h1 h2 h3 ⊢; omega)))
          rw [← hMs] at HPC
          have NR := Lib.hid (N6.out.run.set 11 (.int .i64 2))
          have N7 := Lib.hid (NR.out.nd ⟨id, conf, term, vote, role, leader, b, bt, es, snap, commit, 2, wait, votes, next, mtch⟩ (by simp only [nodeC, List.setIfInBounds_toArray, List.set_cons_succ, List.set_cons_zero]) rfl rfl rfl rfl rfl)
          have HB7 := Lib.hid (HB6.out.trans (NR.out.bel.mono HLO2.out))
          have HZ7 := Lib.hid (HZ6.out.far (p := ⟨g5, 11, none⟩) HNE.out (.int .i64 2))
          clear hMs kr hLd hca hrm
          go_upto_region 10 with (fail)
          generalize w6.setCell ⟨g5, 11, none⟩ (.int .i64 2) = w7 at *
          clear hc6 hgl6 hgf6
          go_wp2_with fail
          refine (HPC.out w7 N7).mono ?_
          rintro e w8 ⟨rfl, ⟨col8, oA8, oc8, LV, hLV, hN8⟩, hb8⟩
          rw [List.nil_append] at hN8
          have N8 := Lib.hid hN8
          have HLV := Lib.hid hLV
          have HB8 := Lib.hid (HB7.out.trans (hb8.mono HLO2.out))
          have HZ8 := Lib.hid (HZ7.out.below hb8 HLO.out)
          clear hN8 hLV hb8
          go_wp2_with (first
            | (refine wpList_loadB rfl 36 (.tmp 5) rfl g5 rfl N8.out.blk Tryz.underlying36 infoO ?_)
            | (refine wpList_storeB rfl 36 (.tmp 4) (.tmp 37) rfl (w.heap.size + 1) (nodeC ⟨id, conf, term, vote, role, leader, b, bt, es, snap, commit, 2, wait, votes, next, mtch⟩ ⟨c2, cc2, e2, ec2, v2, vc2, n2, nc2, m2, mc2, oA8, oc8⟩ (LV).length) rfl rfl HZ8.out infoO rfl (nodeC_one _ _ _) ?_))
          have hld := run_loadVarB (P := Tryz.prog) (HZ8.out.rowSame (nodeC ⟨id, conf, term, vote, role, leader, b, bt, es, snap, commit, 2, wait, votes, next, mtch⟩ ⟨c2, cc2, e2, ec2, v2, vc2, n2, nc2, m2, mc2, oA8, oc8⟩ (LV).length)) 36 Tryz.underlying36 infoO
          refine bodyPost_ret (v := .agg (nodeC ⟨id, conf, term, vote, role, leader, b, bt, es, snap, commit, 2, wait, votes, next, mtch⟩ ⟨c2, cc2, e2, ec2, v2, vc2, n2, nc2, m2, mc2, oA8, oc8⟩ (LV).length)) (by simp [results, Tryz.results11, asAddr, hld, Act.put]) rfl ?_
          rw [HQ3.out]
          exact ⟨⟨⟨c2, cc2, e2, ec2, v2, vc2, n2, nc2, m2, mc2, oA8, oc8⟩, _, LV, rfl, HLV.out, (Rest.row1 N8.out.rest.lowCol (lowCol_lt HLO.out) _).low HLO2.out⟩, bel_row HB8.out (Nat.le_succ _) _⟩
        · have krb : (role == 2) = false := by rw [beq_eq_false_iff_ne]; exact kr
          have HQ3 := Lib.hid (show q = Rf.stand ⟨id, conf, term, vote, role, leader, b, bt, es, snap, commit, 0, wait, votes, next, mtch⟩ d from by rw [HQ2.out, if_neg kr])
          have HB0 : Hid (Rf.Base ⟨id, conf, term, vote, role, leader, b, bt, es, snap, commit, 0, wait, votes, next, mtch⟩) := Lib.hid { HBR.out with left0 := Int.le_refl _, left1 := by show (0 : Int) ≤ 100; decide }
          obtain ⟨qs, hqs⟩ : ∃ qs, qs = Rf.stand ⟨id, conf, term, vote, role, leader, b, bt, es, snap, commit, 0, wait, votes, next, mtch⟩ d := ⟨_, rfl⟩
          have HSC := Lib.hid (rstand_calls N6 (by simp) HB0 d hd0 hd1)
          rw [← hqs] at HSC HQ3
          obtain ⟨s8, Ms⟩ := qs
          clear hqs kr
          go_wp2_with fail
          refine HSC.out.mono ?_
          rintro e w8 ⟨rfl, ⟨col8, x8, LV, -, -, hLV, hN8⟩, hb8⟩
          rw [List.nil_append] at hN8
          have N8 := Lib.hid hN8
          have HLV := Lib.hid hLV
          have HB8 := Lib.hid (HB6.out.trans (hb8.mono HLO2.out))
          have HZ8 := Lib.hid (HZ6.out.below hb8 HLO.out)
          clear hN8 hLV hb8 hc6 hgl6 hgf6
          go_wp2_with (first
            | (refine wpList_loadB rfl 36 (.tmp 5) rfl g5 rfl N8.out.blk Tryz.underlying36 infoO ?_)
            | (refine wpList_storeB rfl 36 (.tmp 4) (.tmp 37) rfl (w.heap.size + 1) (nodeC s8 x8 (LV).length) rfl rfl HZ8.out infoO rfl (nodeC_one _ _ _) ?_))
          have hld := run_loadVarB (P := Tryz.prog) (HZ8.out.rowSame (nodeC s8 x8 (LV).length)) 36 Tryz.underlying36 infoO
          refine bodyPost_ret (v := .agg (nodeC s8 x8 (LV).length)) (by simp [results, Tryz.results11, asAddr, hld, Act.put]) rfl ?_
          rw [HQ3.out]
          exact ⟨⟨x8, _, LV, rfl, HLV.out, (Rest.row1 N8.out.rest.lowCol (lowCol_lt HLO.out) _).low HLO2.out⟩, bel_row HB8.out (Nat.le_succ _) _⟩
end Go.Proofs.YtdladjgdhnkkcaaGreat
