
/-
  Contract of the reference of layer 14: a message comes.
  Conditions: the node and the message can be read.
-/
import Derived.Test.YtdladjgdhnkkcaaGreatZRg13
import Derived.Test.YtdladjgdhnkkcaaGreatZRg14
import Derived.Test.YtdladjgdhnkkcaaGreatZRg15
import Derived.Test.YtdladjgdhnkkcaaGreatZRg16
import Derived.Test.YtdladjgdhnkkcaaGreatZRg17
import Derived.Test.YtdladjgdhnkkcaaGreatZRg18
import Derived.Deep.Cut
import Derived.Deep.DeepCutAuto
namespace Go.Proofs.YtdladjgdhnkkcaaGreat
open Go.RowKit
set_option linter.unusedVariables false
set_option linter.unusedSimpArgs false
set_option maxHeartbeats 20000000

set_option maxRecDepth 100000 in
theorem rhandle_calls (r : Nod) (x : NdX) (w : World) (h : Hid (RdR w r x)) (m : Msg) (A : Option Addr) (cap : Nat) (hm : Hid (m.es.length ≤ cap ∧ RdE w A m.es)) (hml : m.es.length ≤ 9223372036854775807) :
    Calls Tryz.prog 7 #[raftV r x, msgV m A cap] w (AnsO w (Rf.handle r m).1 (Rf.handle r m).2) := by
  obtain ⟨q, hq⟩ : ∃ q, q = Rf.handle r m := ⟨_, rfl⟩
  rw [← hq]
  have HQ := Lib.hid hq
  unfold Rf.handle at HQ
  clear hq
  have HCP := Lib.hid (fun (W : World) (hb : Below w.heap.size w W) => copy14_calls r x W (Lib.hid (h.out.bel hb)))
  have HCK := Lib.hid (fun (W : World) (hb : Below w.heap.size w W) => rfcheck14_calls r x W (Lib.hid (h.out.bel hb)))
  have HTC := Lib.hid (fun (W : World) (hb : Below w.heap.size w W) => rtakes_calls r x W (Lib.hid (h.out.bel hb)) m A cap (Lib.hid ⟨hm.out.1, hm.out.2.bel hb⟩) hml)
  have HCI := Lib.hid (Rf.chk_iff r)
  have HTI := Lib.hid (Rf.takes_iff r m)
  obtain ⟨c1, hc1⟩ : ∃ c1, c1 = Rf.chk r := ⟨_, rfl⟩
  obtain ⟨c2, hc2⟩ : ∃ c2, c2 = Rf.takes r m := ⟨_, rfl⟩
  rw [← hc1] at HCK HQ HCI
  rw [← hc2] at HQ HTI HTC
  clear hc1 hc2
  have HME := Lib.hid (show m.es.length ≤ cap ∧ (0 < m.es.length → ∀ b off sp, A = some ⟨b, off, sp⟩ → b < w.heap.size) from ⟨hm.out.1, fun h0 b off sp e => by
    obtain ⟨b', off', e', hlt, _⟩ := hm.out.2 0 h0
    rw [e] at e'
    injection e' with e'
    injection e' with e1 _ _
    omega⟩)
  obtain ⟨id, conf, term, vote, role, leader, b, bt, es, snap, commit, left, wait, votes, next, mtch⟩ := r
  obtain ⟨mk, ms, md, mt, mi, ml, mc, my, me, mdt⟩ := m
  obtain ⟨cA, cc, eA, ec, vA, vc, nA, nc, mA, mc0, oA, oc⟩ := x
  have HB1 := Lib.hid (bel_new (bel_new (bel_new (Below.refl w.heap.size w) (.cells #[.int .i64 id, .slice cA conf.length cc, .int .i64 term, .int .i64 vote, .int .i64 role, .int .i64 leader, .int .i64 b, .int .i64 bt, .slice eA es.length ec, .string snap, .int .i64 commit, .int .i64 left, .int .i64 wait, .slice vA votes.length vc, .slice nA next.length nc, .slice mA mtch.length mc0] 28)) (.cells #[.int .i64 mk, .int .i64 ms, .int .i64 md, .int .i64 mt, .int .i64 mi, .int .i64 ml, .int .i64 mc, .bool my, .slice A me.length cap, .string mdt] 30)) (.cells #[.int .i64 0, .slice none 0 0, .int .i64 0, .int .i64 0, .int .i64 0, .int .i64 0, .int .i64 0, .int .i64 0, .slice none 0 0, .string ⟨#[]⟩, .int .i64 0, .int .i64 0, .int .i64 0, .slice none 0 0, .slice none 0 0, .slice none 0 0, .slice none 0 0] 36))
  have HK1 := Lib.hid (((Blk.new w 28 #[.int .i64 id, .slice cA conf.length cc, .int .i64 term, .int .i64 vote, .int .i64 role, .int .i64 leader, .int .i64 b, .int .i64 bt, .slice eA es.length ec, .string snap, .int .i64 commit, .int .i64 left, .int .i64 wait, .slice vA votes.length vc, .slice nA next.length nc, .slice mA mtch.length mc0]).alloc (.cells #[.int .i64 mk, .int .i64 ms, .int .i64 md, .int .i64 mt, .int .i64 mi, .int .i64 ml, .int .i64 mc, .bool my, .slice A me.length cap, .string mdt] 30)).alloc (.cells #[.int .i64 0, .slice none 0 0, .int .i64 0, .int .i64 0, .int .i64 0, .int .i64 0, .int .i64 0, .int .i64 0, .slice none 0 0, .string ⟨#[]⟩, .int .i64 0, .int .i64 0, .int .i64 0, .slice none 0 0, .slice none 0 0, .slice none 0 0, .slice none 0 0] 36))
  have HM1 := Lib.hid ((Blk.new2 w (.cells #[.int .i64 id, .slice cA conf.length cc, .int .i64 term, .int .i64 vote, .int .i64 role, .int .i64 leader, .int .i64 b, .int .i64 bt, .slice eA es.length ec, .string snap, .int .i64 commit, .int .i64 left, .int .i64 wait, .slice vA votes.length vc, .slice nA next.length nc, .slice mA mtch.length mc0] 28) 30 #[.int .i64 mk, .int .i64 ms, .int .i64 md, .int .i64 mt, .int .i64 mi, .int .i64 ml, .int .i64 mc, .bool my, .slice A me.length cap, .string mdt]).alloc (.cells #[.int .i64 0, .slice none 0 0, .int .i64 0, .int .i64 0, .int .i64 0, .int .i64 0, .int .i64 0, .int .i64 0, .slice none 0 0, .string ⟨#[]⟩, .int .i64 0, .int .i64 0, .int .i64 0, .slice none 0 0, .slice none 0 0, .slice none 0 0, .slice none 0 0] 36))
  have HZ1 := Lib.hid (Blk.new3 w (.cells #[.int .i64 id, .slice cA conf.length cc, .int .i64 term, .int .i64 vote, .int .i64 role, .int .i64 leader, .int .i64 b, .int .i64 bt, .slice eA es.length ec, .string snap, .int .i64 commit, .int .i64 left, .int .i64 wait, .slice vA votes.length vc, .slice nA next.length nc, .slice mA mtch.length mc0] 28) (.cells #[.int .i64 mk, .int .i64 ms, .int .i64 md, .int .i64 mt, .int .i64 mi, .int .i64 ml, .int .i64 mc, .bool my, .slice A me.length cap, .string mdt] 30) 36 #[.int .i64 0, .slice none 0 0, .int .i64 0, .int .i64 0, .int .i64 0, .int .i64 0, .int .i64 0, .int .i64 0, .slice none 0 0, .string ⟨#[]⟩, .int .i64 0, .int .i64 0, .int .i64 0, .slice none 0 0, .slice none 0 0, .slice none 0 0, .slice none 0 0])
  have HS1 : Hid (w.heap.size + 3 = (((w.alloc (.cells #[.int .i64 id, .slice cA conf.length cc, .int .i64 term, .int .i64 vote, .int .i64 role, .int .i64 leader, .int .i64 b, .int .i64 bt, .slice eA es.length ec, .string snap, .int .i64 commit, .int .i64 left, .int .i64 wait, .slice vA votes.length vc, .slice nA next.length nc, .slice mA mtch.length mc0] 28)).alloc (.cells #[.int .i64 mk, .int .i64 ms, .int .i64 md, .int .i64 mt, .int .i64 mi, .int .i64 ml, .int .i64 mc, .bool my, .slice A me.length cap, .string mdt] 30)).alloc (.cells #[.int .i64 0, .slice none 0 0, .int .i64 0, .int .i64 0, .int .i64 0, .int .i64 0, .int .i64 0, .int .i64 0, .slice none 0 0, .string ⟨#[]⟩, .int .i64 0, .int .i64 0, .int .i64 0, .slice none 0 0, .slice none 0 0, .slice none 0 0, .slice none 0 0] 36)).heap.size) := Lib.hid (by rw [size_alloc, size_alloc, size_alloc])
  go_enter Tryz.func7, Tryz.ntmps7
  go_upto_region 1 with (fail)
  generalize ((w.alloc (.cells #[.int .i64 id, .slice cA conf.length cc, .int .i64 term, .int .i64 vote, .int .i64 role, .int .i64 leader, .int .i64 b, .int .i64 bt, .slice eA es.length ec, .string snap, .int .i64 commit, .int .i64 left, .int .i64 wait, .slice vA votes.length vc, .slice nA next.length nc, .slice mA mtch.length mc0] 28)).alloc (.cells #[.int .i64 mk, .int .i64 ms, .int .i64 md, .int .i64 mt, .int .i64 mi, .int .i64 ml, .int .i64 mc, .bool my, .slice A me.length cap, .string mdt] 30)).alloc (.cells #[.int .i64 0, .slice none 0 0, .int .i64 0, .int .i64 0, .int .i64 0, .int .i64 0, .int .i64 0, .int .i64 0, .slice none 0 0, .string ⟨#[]⟩, .int .i64 0, .int .i64 0, .int .i64 0, .slice none 0 0, .slice none 0 0, .slice none 0 0, .slice none 0 0] 36) = w1 at *
  have HLO : Hid (w.heap.size + 1 + 1 < w1.heap.size) := Lib.hid (by have := HS1.out; omega)
  have HLOM : Hid (w.heap.size + 1 < w1.heap.size) := Lib.hid (by have := HS1.out; omega)
  have HLO2 : Hid (w.heap.size ≤ w1.heap.size) := Lib.hid (by have := HS1.out; omega)
  have HZ2 : Hid (w.heap.size ≤ w.heap.size + 1 + 1) := Lib.hid (by omega)
  go_wp2_with (refine wpList_loadB rfl 28 (.tmp 2) rfl w.heap.size rfl HK1.out Tryz.underlying28 infoR ?_)
  refine (HCP.out w1 HB1.out).mono ?_
  rintro e w2 ⟨⟨x2, col2, rfl, hR2⟩, hb2⟩
  obtain ⟨c2', cc2, e2, ec2, v2, vc2, n2, nc2, m2, mc2, o2, oc2⟩ := x2
  have HB2 := Lib.hid (bel_tr HB1.out hb2)
  have HB3 := Lib.hid (bel_new HB2.out (.cells #[.int .i64 id, .slice c2' conf.length cc2, .int .i64 term, .int .i64 vote, .int .i64 role, .int .i64 leader, .int .i64 b, .int .i64 bt, .slice e2 es.length ec2, .string snap, .int .i64 commit, .int .i64 left, .int .i64 wait, .slice v2 votes.length vc2, .slice n2 next.length nc2, .slice m2 mtch.length mc2, .slice none 0 0] 36))
  have HK3 := Lib.hid ((HK1.out.bel hb2).alloc (.cells #[.int .i64 id, .slice c2' conf.length cc2, .int .i64 term, .int .i64 vote, .int .i64 role, .int .i64 leader, .int .i64 b, .int .i64 bt, .slice e2 es.length ec2, .string snap, .int .i64 commit, .int .i64 left, .int .i64 wait, .slice v2 votes.length vc2, .slice n2 next.length nc2, .slice m2 mtch.length mc2, .slice none 0 0] 36))
  have HM3 := Lib.hid ((HM1.out.bel hb2).alloc (.cells #[.int .i64 id, .slice c2' conf.length cc2, .int .i64 term, .int .i64 vote, .int .i64 role, .int .i64 leader, .int .i64 b, .int .i64 bt, .slice e2 es.length ec2, .string snap, .int .i64 commit, .int .i64 left, .int .i64 wait, .slice v2 votes.length vc2, .slice n2 next.length nc2, .slice m2 mtch.length mc2, .slice none 0 0] 36))
  have HZ3 := Lib.hid ((HZ1.out.bel hb2).alloc (.cells #[.int .i64 id, .slice c2' conf.length cc2, .int .i64 term, .int .i64 vote, .int .i64 role, .int .i64 leader, .int .i64 b, .int .i64 bt, .slice e2 es.length ec2, .string snap, .int .i64 commit, .int .i64 left, .int .i64 wait, .slice v2 votes.length vc2, .slice n2 next.length nc2, .slice m2 mtch.length mc2, .slice none 0 0] 36))
  have HG := Lib.hid hb2.size
  have N3 : Hid (Nd 36 w1.heap.size w2.heap.size (recol col2 w2.heap.size 1) ⟨id, conf, term, vote, role, leader, b, bt, es, snap, commit, left, wait, votes, next, mtch⟩ ⟨c2', cc2, e2, ec2, v2, vc2, n2, nc2, m2, mc2, none, 0⟩ [] (w2.alloc (.cells #[.int .i64 id, .slice c2' conf.length cc2, .int .i64 term, .int .i64 vote, .int .i64 role, .int .i64 leader, .int .i64 b, .int .i64 bt, .slice e2 es.length ec2, .string snap, .int .i64 commit, .int .i64 left, .int .i64 wait, .slice v2 votes.length vc2, .slice n2 next.length nc2, .slice m2 mtch.length mc2, .slice none 0 0] 36))) := Lib.hid ⟨HG.out, recol_new (Nat.le_refl _), Blk.new w2 _ _, (hR2.recol 1).bel (bel_new (Below.refl _ _) _)⟩
  clear hR2 hb2 HCP HB1 HK1 HM1 HZ1 HB2 HS1
  go_upto_region 2 with (fail)
  obtain ⟨g5, hg5⟩ : ∃ g5, g5 = w2.heap.size := ⟨_, rfl⟩
  generalize w2.alloc (.cells #[.int .i64 id, .slice c2' conf.length cc2, .int .i64 term, .int .i64 vote, .int .i64 role, .int .i64 leader, .int .i64 b, .int .i64 bt, .slice e2 es.length ec2, .string snap, .int .i64 commit, .int .i64 left, .int .i64 wait, .slice v2 votes.length vc2, .slice n2 next.length nc2, .slice m2 mtch.length mc2, .slice none 0 0] 36) = w3 at *
  generalize recol col2 w2.heap.size 1 = col5 at *
  rw [← hg5] at N3 HG ⊢
  have HNE : Hid (w.heap.size + 1 + 1 ≠ g5) := Lib.hid (by have := HG.out; have := HLO.out; omega)
  have HNM : Hid (w.heap.size + 1 ≠ g5) := Lib.hid (by have := HG.out; have := HLO.out; omega)
  clear hg5
  go_wp2_with (refine wpList_loadB rfl 28 (.tmp 2) rfl w.heap.size rfl HK3.out Tryz.underlying28 infoR ?_)
  refine (HCK.out w3 HB3.out).mono ?_
  rintro e w4 ⟨rfl, hb4⟩
  have N4 := Lib.hid (N3.out.bel hb4)
  have HB4 := Lib.hid (bel_tr HB3.out hb4)
  have HZ4 := Lib.hid (HZ3.out.bel hb4)
  have HK4 := Lib.hid (HK3.out.bel hb4)
  have HM4 := Lib.hid (HM3.out.bel hb4)
  clear hb4 N3 HB3 HZ3 HK3 HM3 HCK
  cases c1 with
  | false =>
    have HQ3 := Lib.hid (show q = (⟨id, conf, term, vote, role, leader, b, bt, es, snap, commit, left, wait, votes, next, mtch⟩, []) from by rw [HQ.out]; rfl)
    go_wp2_with (first
      | (refine wpList_loadB rfl 36 (.tmp 5) rfl g5 rfl N4.out.blk Tryz.underlying36 infoO ?_)
      | (refine wpList_storeB rfl 36 (.tmp 4) (.tmp 18) rfl (w.heap.size + 1 + 1) (nodeC ⟨id, conf, term, vote, role, leader, b, bt, es, snap, commit, left, wait, votes, next, mtch⟩ ⟨c2', cc2, e2, ec2, v2, vc2, n2, nc2, m2, mc2, none, 0⟩ (([] : List MsgV)).length) rfl rfl HZ4.out infoO rfl (nodeC_one _ _ _) ?_))
    have hld := run_loadVarB (P := Tryz.prog) (HZ4.out.rowSame (nodeC ⟨id, conf, term, vote, role, leader, b, bt, es, snap, commit, left, wait, votes, next, mtch⟩ ⟨c2', cc2, e2, ec2, v2, vc2, n2, nc2, m2, mc2, none, 0⟩ (([] : List MsgV)).length)) 36 Tryz.underlying36 infoO
    simp only [List.length_nil] at hld
    refine bodyPost_ret (v := .agg (nodeC ⟨id, conf, term, vote, role, leader, b, bt, es, snap, commit, left, wait, votes, next, mtch⟩ ⟨c2', cc2, e2, ec2, v2, vc2, n2, nc2, m2, mc2, none, 0⟩ (([] : List MsgV)).length)) (by simp [results, Tryz.results7, asAddr, hld, Act.put]) rfl ?_
    rw [HQ3.out]
    exact ⟨⟨⟨c2', cc2, e2, ec2, v2, vc2, n2, nc2, m2, mc2, none, 0⟩, _, ([] : List MsgV), rfl, rfl, (Rest.row1 N4.out.rest.lowCol (lowCol_lt HLO.out) _).low HLO2.out⟩, bel_row HB4.out HZ2.out _⟩
  | true =>
    obtain ⟨hBR, hRL⟩ := HCI.out.1 (by first | rfl | trivial)
    have HBR := Lib.hid hBR
    have HRL := Lib.hid hRL
    clear hBR hRL HCI
    go_wp2_with (first
      | (refine wpList_loadG 28 (.tmp 2) rfl w.heap.size rfl HK4.out Tryz.underlying28 infoR (by rfl) ?_)
      | (refine wpList_loadG 30 (.tmp 3) rfl (w.heap.size + 1) rfl HM4.out Tryz.underlying30 infoMs (by rfl) ?_))
    refine (HTC.out w4 HB4.out).mono ?_
    rintro e w5 ⟨rfl, hb5⟩
    have N5 := Lib.hid (N4.out.bel hb5)
    have HB5 := Lib.hid (bel_tr HB4.out hb5)
    have HZ5 := Lib.hid (HZ4.out.bel hb5)
    have HM5 := Lib.hid (HM4.out.bel hb5)
    clear hb5 N4 HB4 HZ4 HK4 HM4 HTC
    cases c2 with
    | false =>
      have HQ3 := Lib.hid (show q = (⟨id, conf, term, vote, role, leader, b, bt, es, snap, commit, left, wait, votes, next, mtch⟩, []) from by rw [HQ.out]; rfl)
      go_wp2_with (first
        | (refine wpList_loadB rfl 36 (.tmp 5) rfl g5 rfl N5.out.blk Tryz.underlying36 infoO ?_)
        | (refine wpList_storeB rfl 36 (.tmp 4) (.tmp 18) rfl (w.heap.size + 1 + 1) (nodeC ⟨id, conf, term, vote, role, leader, b, bt, es, snap, commit, left, wait, votes, next, mtch⟩ ⟨c2', cc2, e2, ec2, v2, vc2, n2, nc2, m2, mc2, none, 0⟩ (([] : List MsgV)).length) rfl rfl HZ5.out infoO rfl (nodeC_one _ _ _) ?_))
      have hld := run_loadVarB (P := Tryz.prog) (HZ5.out.rowSame (nodeC ⟨id, conf, term, vote, role, leader, b, bt, es, snap, commit, left, wait, votes, next, mtch⟩ ⟨c2', cc2, e2, ec2, v2, vc2, n2, nc2, m2, mc2, none, 0⟩ (([] : List MsgV)).length)) 36 Tryz.underlying36 infoO
      simp only [List.length_nil] at hld
      refine bodyPost_ret (v := .agg (nodeC ⟨id, conf, term, vote, role, leader, b, bt, es, snap, commit, left, wait, votes, next, mtch⟩ ⟨c2', cc2, e2, ec2, v2, vc2, n2, nc2, m2, mc2, none, 0⟩ (([] : List MsgV)).length)) (by simp [results, Tryz.results7, asAddr, hld, Act.put]) rfl ?_
      rw [HQ3.out]
      exact ⟨⟨⟨c2', cc2, e2, ec2, v2, vc2, n2, nc2, m2, mc2, none, 0⟩, _, ([] : List MsgV), rfl, rfl, (Rest.row1 N5.out.rest.lowCol (lowCol_lt HLO.out) _).low HLO2.out⟩, bel_row HB5.out HZ2.out _⟩
    | true =>
      have HTK := Lib.hid (HTI.out.1 (by first | rfl | trivial))
      have HQ2 := Lib.hid (show q = if mt < term then (⟨id, conf, term, vote, role, leader, b, bt, es, snap, commit, left, wait, votes, next, mtch⟩, Rf.late ⟨id, conf, term, vote, role, leader, b, bt, es, snap, commit, left, wait, votes, next, mtch⟩ ⟨mk, ms, md, mt, mi, ml, mc, my, me, mdt⟩) else Rf.same (Rf.newer ⟨id, conf, term, vote, role, leader, b, bt, es, snap, commit, left, wait, votes, next, mtch⟩ ⟨mk, ms, md, mt, mi, ml, mc, my, me, mdt⟩) ⟨mk, ms, md, mt, mi, ml, mc, my, me, mdt⟩ from by rw [HQ.out]; rfl)
      clear HTI HQ
      have hc5 : ∀ i, w5.cell? ⟨g5, i, none⟩ = (nodeC ⟨id, conf, term, vote, role, leader, b, bt, es, snap, commit, left, wait, votes, next, mtch⟩ ⟨c2', cc2, e2, ec2, v2, vc2, n2, nc2, m2, mc2, none, 0⟩ ([] : List MsgV).length)[i]? := N5.out.blk.cells
      dsimp only [nodeC] at hc5
      have hm5 : ∀ i, w5.cell? ⟨w.heap.size + 1, i, none⟩ = (#[.int .i64 mk, .int .i64 ms, .int .i64 md, .int .i64 mt, .int .i64 mi, .int .i64 ml, .int .i64 mc, .bool my, .slice A me.length cap, .string mdt] : Array Value)[i]? := HM5.out.cells
      go_upto_if 24 with (fail)
      go_cut [] (fun W => ∃ (te vo ro le : Int) (vs ns qs : List Int) (colS : Nat → Nat) (xS : NdX), Hid (Rf.newer ⟨id, conf, term, vote, role, leader, b, bt, es, snap, commit, left, wait, votes, next, mtch⟩ ⟨mk, ms, md, mt, mi, ml, mc, my, me, mdt⟩ = ⟨id, conf, te, vo, ro, le, b, bt, es, snap, commit, left, wait, vs, ns, qs⟩) ∧ Hid (term < mt → te = mt) ∧ Hid (Nd 36 w1.heap.size g5 colS ⟨id, conf, te, vo, ro, le, b, bt, es, snap, commit, left, wait, vs, ns, qs⟩ xS [] W) ∧ Hid (Below w.heap.size w W) ∧ Hid (Blk W (w.heap.size + 1) 30 #[.int .i64 mk, .int .i64 ms, .int .i64 md, .int .i64 mt, .int .i64 mi, .int .i64 ml, .int .i64 mc, .bool my, .slice A me.length cap, .string mdt]) ∧ Hid (Blk W (w.heap.size + 1 + 1) 36 #[.int .i64 0, .slice none 0 0, .int .i64 0, .int .i64 0, .int .i64 0, .int .i64 0, .int .i64 0, .int .i64 0, .slice none 0 0, .string ⟨#[]⟩, .int .i64 0, .int .i64 0, .int .i64 0, .slice none 0 0, .slice none 0 0, .slice none 0 0, .slice none 0 0]))
      case first =>
        by_cases k1 : term < mt
        · have HK1 := Lib.hid k1
          go_wp2_with fail
          refine (clear_calls N5).mono ?_
          rintro e w6 ⟨rfl, ⟨col6, hN6⟩, hb6, hal⟩
          have N6 := Lib.hid hN6
          have HB6 := Lib.hid (HB5.out.trans (hb6.mono HLO2.out))
          have HM6 := Lib.hid (HM5.out.same (hal (w.heap.size + 1) HM5.out.lt HNM.out))
          have HZ6 := Lib.hid (HZ5.out.same (hal (w.heap.size + 1 + 1) HZ5.out.lt HNE.out))
          clear hN6 hb6 hal hc5 hm5
          have hc6 : ∀ i, w6.cell? ⟨g5, i, none⟩ = (nodeC (Rf.clear ⟨id, conf, term, vote, role, leader, b, bt, es, snap, commit, left, wait, votes, next, mtch⟩) (NdX.bare ⟨c2', cc2, e2, ec2, v2, vc2, n2, nc2, m2, mc2, none, 0⟩) ([] : List MsgV).length)[i]? := N6.out.blk.cells
          dsimp only [nodeC, Rf.clear, NdX.bare] at hc6
          have hm6 : ∀ i, w6.cell? ⟨w.heap.size + 1, i, none⟩ = (#[.int .i64 mk, .int .i64 ms, .int .i64 md, .int .i64 mt, .int .i64 mi, .int .i64 ml, .int .i64 mc, .bool my, .slice A me.length cap, .string mdt] : Array Value)[i]? := HM6.out.cells
          have hgl6 := N6.out.blk.lt
          have hgf6 := N6.out.blk.free
          have hnm1 : ¬ w.heap.size + 1 = g5 := HNM.out
          have hnm2 : ¬ g5 = w.heap.size + 1 := fun e => HNM.out e.symm
          have NR := Lib.hid ((((N6.out.run.set 2 (.int .i64 mt)).set 3 (.int .i64 0)).set 4 (.int .i64 0)).set 5 (.int .i64 0))
          have NS := Lib.hid (NR.out.nd ⟨id, conf, mt, 0, 0, 0, b, bt, es, snap, commit, left, wait, [], [], []⟩ (by simp only [nodeC, Rf.clear, NdX.bare, List.setIfInBounds_toArray, List.set_cons_succ, List.set_cons_zero, List.length_nil]) rfl rfl rfl rfl rfl)
          have HBS := Lib.hid (HB6.out.trans (NR.out.bel.mono HLO2.out))
          have HMS := Lib.hid ((((HM6.out.far (p := ⟨g5, 2, none⟩) HNM.out (.int .i64 mt)).far (p := ⟨g5, 3, none⟩) HNM.out (.int .i64 0)).far (p := ⟨g5, 4, none⟩) HNM.out (.int .i64 0)).far (p := ⟨g5, 5, none⟩) HNM.out (.int .i64 0))
          have HZS := Lib.hid ((((HZ6.out.far (p := ⟨g5, 2, none⟩) HNE.out (.int .i64 mt)).far (p := ⟨g5, 3, none⟩) HNE.out (.int .i64 0)).far (p := ⟨g5, 4, none⟩) HNE.out (.int .i64 0)).far (p := ⟨g5, 5, none⟩) HNE.out (.int .i64 0))
          go_wp2_with fail
          go_meet
          exact ⟨mt, 0, 0, 0, [], [], [], _, _, Lib.hid (by unfold Rf.newer; exact if_pos HK1.out), Lib.hid (fun _ => rfl), NS, HBS, HMS, HZS⟩
        · have HK1 := Lib.hid k1
          go_wp2_with fail
          go_meet
          exact ⟨term, vote, role, leader, votes, next, mtch, _, _, Lib.hid (by unfold Rf.newer; exact if_neg (show ¬ term < mt by have := HK1.out; omega)), Lib.hid (fun h => by have := HK1.out; omega), N5, HB5, HM5, HZ5⟩
      case rest =>
        obtain ⟨te, vo, ro, le, vs, ns, qs, colS, xS, HNW, HTE, NS, HBS, HMS, HZS⟩ := hcut
        clear hc5 hm5 N5 HB5 HM5 HZ5
        have hng := Rf.newer_go HBR.out HRL.out HTK.out
        have hnt := HTK.out.newer
        rw [HNW.out] at hng hnt
        have HBR1 : Hid (Rf.Base ⟨id, conf, te, vo, ro, le, b, bt, es, snap, commit, left, wait, vs, ns, qs⟩) := Lib.hid hng.1.base
        have HRL1 : Hid (Rf.Role ⟨id, conf, te, vo, ro, le, b, bt, es, snap, commit, left, wait, vs, ns, qs⟩) := Lib.hid hng.2
        have HTK1 : Hid (Rf.Takes ⟨id, conf, te, vo, ro, le, b, bt, es, snap, commit, left, wait, vs, ns, qs⟩ ⟨mk, ms, md, mt, mi, ml, mc, my, me, mdt⟩) := Lib.hid hnt
        clear hng hnt
        have kT : wc.cell? ⟨g5, 2, none⟩ = some (.int .i64 te) := NS.out.blk.cells 2
        have kR : wc.cell? ⟨g5, 4, none⟩ = some (.int .i64 ro) := NS.out.blk.cells 4
        have kM : wc.cell? ⟨w.heap.size + 1, 3, none⟩ = some (.int .i64 mt) := HMS.out.cells 3
        have kK : wc.cell? ⟨w.heap.size + 1, 0, none⟩ = some (.int .i64 mk) := HMS.out.cells 0
        have kS : wc.cell? ⟨w.heap.size + 1, 1, none⟩ = some (.int .i64 ms) := HMS.out.cells 1
        by_cases hlt : mt < te
        · have HQL := Lib.hid (show q = (⟨id, conf, te, vo, ro, le, b, bt, es, snap, commit, left, wait, vs, ns, qs⟩, Rf.late ⟨id, conf, te, vo, ro, le, b, bt, es, snap, commit, left, wait, vs, ns, qs⟩ ⟨mk, ms, md, mt, mi, ml, mc, my, me, mdt⟩) from by
            have hnt : ¬ term < mt := fun h => by have := HTE.out h; omega
            have heq : (⟨id, conf, term, vote, role, leader, b, bt, es, snap, commit, left, wait, votes, next, mtch⟩ : Nod) = ⟨id, conf, te, vo, ro, le, b, bt, es, snap, commit, left, wait, vs, ns, qs⟩ := by have := HNW.out; unfold Rf.newer at this; exact (if_neg hnt).symm.trans this
            have ht : term = te := congrArg Nod.term heq
            rw [HQ2.out, if_pos (show mt < term by omega), heq])
          by_cases k1 : mk = 1
          · subst k1
            have HQK := Lib.hid (show q = (⟨id, conf, te, vo, ro, le, b, bt, es, snap, commit, left, wait, vs, ns, qs⟩, [⟨2, id, ms, te, 0, 0, 0, false, [], ByteArray.empty⟩]) from HQL.out)
            go_wp2_with fail
            refine (say_calls NS (by simp) ⟨2, 0, ms, 0, 0, 0, 0, false, [], ByteArray.empty⟩ none 0 (Lib.hid ⟨Nat.le_refl _, RdZ.nil⟩)).mono ?_
            rintro e w6 ⟨rfl, ⟨col6, oA6, oc6, hN6⟩, hb6⟩
            rw [List.nil_append] at hN6
            obtain ⟨LV, hLV⟩ : ∃ LV : List MsgV, LV = [⟨Rf.say ⟨id, conf, te, vo, ro, le, b, bt, es, snap, commit, left, wait, vs, ns, qs⟩ ⟨2, 0, ms, 0, 0, 0, 0, false, [], ByteArray.empty⟩, none, 0⟩] := ⟨_, rfl⟩
            rw [← hLV] at hN6
            have HQ6 := Lib.hid (show q = (⟨id, conf, te, vo, ro, le, b, bt, es, snap, commit, left, wait, vs, ns, qs⟩, LV.map (·.m)) from by rw [HQK.out, hLV]; rfl)
            have N6 := Lib.hid hN6
            have HB6 := Lib.hid (HBS.out.trans (hb6.mono HLO2.out))
            have HZ6 := Lib.hid (HZS.out.below hb6 HLO.out)
            have HM6 := Lib.hid (HMS.out.below hb6 HLOM.out)
            have kK6 : w6.cell? ⟨w.heap.size + 1, 0, none⟩ = some (.int .i64 1) := HM6.out.cells 0
            clear hLV hN6 hb6 kT kM kK kR kS
            go_wp2_with (first
              | (refine wpList_loadB rfl 36 (.tmp 5) rfl g5 rfl N6.out.blk Tryz.underlying36 infoO ?_)
              | (refine wpList_storeB rfl 36 (.tmp 4) (.tmp 61) rfl (w.heap.size + 1 + 1) (nodeC ⟨id, conf, te, vo, ro, le, b, bt, es, snap, commit, left, wait, vs, ns, qs⟩ { xS with oA := oA6, oc := oc6 } (LV).length) rfl rfl HZ6.out infoO rfl (nodeC_one _ _ _) ?_))
            have hld := run_loadVarB (P := Tryz.prog) (HZ6.out.rowSame (nodeC ⟨id, conf, te, vo, ro, le, b, bt, es, snap, commit, left, wait, vs, ns, qs⟩ { xS with oA := oA6, oc := oc6 } (LV).length)) 36 Tryz.underlying36 infoO
            refine bodyPost_ret (v := .agg (nodeC ⟨id, conf, te, vo, ro, le, b, bt, es, snap, commit, left, wait, vs, ns, qs⟩ { xS with oA := oA6, oc := oc6 } (LV).length)) (by simp [results, Tryz.results7, asAddr, hld, Act.put]) rfl ?_
            rw [HQ6.out]
            exact ⟨⟨{ xS with oA := oA6, oc := oc6 }, _, LV, rfl, rfl, (Rest.row1 N6.out.rest.lowCol (lowCol_lt HLO.out) _).low HLO2.out⟩, bel_row HB6.out HZ2.out _⟩
          have kb1 : (mk == 1) = false := by rw [beq_eq_false_iff_ne]; exact k1
          by_cases k3 : mk = 3
          · subst k3
            have HQK := Lib.hid (show q = (⟨id, conf, te, vo, ro, le, b, bt, es, snap, commit, left, wait, vs, ns, qs⟩, [⟨4, id, ms, te, 0, 0, 0, false, [], ByteArray.empty⟩]) from HQL.out)
            go_wp2_with fail
            refine (say_calls NS (by simp) ⟨4, 0, ms, 0, 0, 0, 0, false, [], ByteArray.empty⟩ none 0 (Lib.hid ⟨Nat.le_refl _, RdZ.nil⟩)).mono ?_
            rintro e w6 ⟨rfl, ⟨col6, oA6, oc6, hN6⟩, hb6⟩
            rw [List.nil_append] at hN6
            obtain ⟨LV, hLV⟩ : ∃ LV : List MsgV, LV = [⟨Rf.say ⟨id, conf, te, vo, ro, le, b, bt, es, snap, commit, left, wait, vs, ns, qs⟩ ⟨4, 0, ms, 0, 0, 0, 0, false, [], ByteArray.empty⟩, none, 0⟩] := ⟨_, rfl⟩
            rw [← hLV] at hN6
            have HQ6 := Lib.hid (show q = (⟨id, conf, te, vo, ro, le, b, bt, es, snap, commit, left, wait, vs, ns, qs⟩, LV.map (·.m)) from by rw [HQK.out, hLV]; rfl)
            have N6 := Lib.hid hN6
            have HB6 := Lib.hid (HBS.out.trans (hb6.mono HLO2.out))
            have HZ6 := Lib.hid (HZS.out.below hb6 HLO.out)
            have HM6 := Lib.hid (HMS.out.below hb6 HLOM.out)
            have kK6 : w6.cell? ⟨w.heap.size + 1, 0, none⟩ = some (.int .i64 3) := HM6.out.cells 0
            clear hLV hN6 hb6 kT kM kK kR kS
            go_wp2_with (first
              | (refine wpList_loadB rfl 36 (.tmp 5) rfl g5 rfl N6.out.blk Tryz.underlying36 infoO ?_)
              | (refine wpList_storeB rfl 36 (.tmp 4) (.tmp 61) rfl (w.heap.size + 1 + 1) (nodeC ⟨id, conf, te, vo, ro, le, b, bt, es, snap, commit, left, wait, vs, ns, qs⟩ { xS with oA := oA6, oc := oc6 } (LV).length) rfl rfl HZ6.out infoO rfl (nodeC_one _ _ _) ?_))
            have hld := run_loadVarB (P := Tryz.prog) (HZ6.out.rowSame (nodeC ⟨id, conf, te, vo, ro, le, b, bt, es, snap, commit, left, wait, vs, ns, qs⟩ { xS with oA := oA6, oc := oc6 } (LV).length)) 36 Tryz.underlying36 infoO
            refine bodyPost_ret (v := .agg (nodeC ⟨id, conf, te, vo, ro, le, b, bt, es, snap, commit, left, wait, vs, ns, qs⟩ { xS with oA := oA6, oc := oc6 } (LV).length)) (by simp [results, Tryz.results7, asAddr, hld, Act.put]) rfl ?_
            rw [HQ6.out]
            exact ⟨⟨{ xS with oA := oA6, oc := oc6 }, _, LV, rfl, rfl, (Rest.row1 N6.out.rest.lowCol (lowCol_lt HLO.out) _).low HLO2.out⟩, bel_row HB6.out HZ2.out _⟩
          have kb3 : (mk == 3) = false := by rw [beq_eq_false_iff_ne]; exact k3
          by_cases k5 : mk = 5
          · subst k5
            have HQK := Lib.hid (show q = (⟨id, conf, te, vo, ro, le, b, bt, es, snap, commit, left, wait, vs, ns, qs⟩, [⟨4, id, ms, te, 0, 0, 0, false, [], ByteArray.empty⟩]) from HQL.out)
            go_wp2_with fail
            refine (say_calls NS (by simp) ⟨4, 0, ms, 0, 0, 0, 0, false, [], ByteArray.empty⟩ none 0 (Lib.hid ⟨Nat.le_refl _, RdZ.nil⟩)).mono ?_
            rintro e w6 ⟨rfl, ⟨col6, oA6, oc6, hN6⟩, hb6⟩
            rw [List.nil_append] at hN6
            obtain ⟨LV, hLV⟩ : ∃ LV : List MsgV, LV = [⟨Rf.say ⟨id, conf, te, vo, ro, le, b, bt, es, snap, commit, left, wait, vs, ns, qs⟩ ⟨4, 0, ms, 0, 0, 0, 0, false, [], ByteArray.empty⟩, none, 0⟩] := ⟨_, rfl⟩
            rw [← hLV] at hN6
            have HQ6 := Lib.hid (show q = (⟨id, conf, te, vo, ro, le, b, bt, es, snap, commit, left, wait, vs, ns, qs⟩, LV.map (·.m)) from by rw [HQK.out, hLV]; rfl)
            have N6 := Lib.hid hN6
            have HB6 := Lib.hid (HBS.out.trans (hb6.mono HLO2.out))
            have HZ6 := Lib.hid (HZS.out.below hb6 HLO.out)
            have HM6 := Lib.hid (HMS.out.below hb6 HLOM.out)
            have kK6 : w6.cell? ⟨w.heap.size + 1, 0, none⟩ = some (.int .i64 5) := HM6.out.cells 0
            clear hLV hN6 hb6 kT kM kK kR kS
            go_wp2_with (first
              | (refine wpList_loadB rfl 36 (.tmp 5) rfl g5 rfl N6.out.blk Tryz.underlying36 infoO ?_)
              | (refine wpList_storeB rfl 36 (.tmp 4) (.tmp 61) rfl (w.heap.size + 1 + 1) (nodeC ⟨id, conf, te, vo, ro, le, b, bt, es, snap, commit, left, wait, vs, ns, qs⟩ { xS with oA := oA6, oc := oc6 } (LV).length) rfl rfl HZ6.out infoO rfl (nodeC_one _ _ _) ?_))
            have hld := run_loadVarB (P := Tryz.prog) (HZ6.out.rowSame (nodeC ⟨id, conf, te, vo, ro, le, b, bt, es, snap, commit, left, wait, vs, ns, qs⟩ { xS with oA := oA6, oc := oc6 } (LV).length)) 36 Tryz.underlying36 infoO
            refine bodyPost_ret (v := .agg (nodeC ⟨id, conf, te, vo, ro, le, b, bt, es, snap, commit, left, wait, vs, ns, qs⟩ { xS with oA := oA6, oc := oc6 } (LV).length)) (by simp [results, Tryz.results7, asAddr, hld, Act.put]) rfl ?_
            rw [HQ6.out]
            exact ⟨⟨{ xS with oA := oA6, oc := oc6 }, _, LV, rfl, rfl, (Rest.row1 N6.out.rest.lowCol (lowCol_lt HLO.out) _).low HLO2.out⟩, bel_row HB6.out HZ2.out _⟩
          have kb5 : (mk == 5) = false := by rw [beq_eq_false_iff_ne]; exact k5
          have HQK := Lib.hid (show q = (⟨id, conf, te, vo, ro, le, b, bt, es, snap, commit, left, wait, vs, ns, qs⟩, []) from by
            rw [HQL.out]; unfold Rf.late
            rw [if_neg k1, if_neg (fun h => h.elim k3 k5)])
          go_wp2_with (first
            | (refine wpList_loadB rfl 36 (.tmp 5) rfl g5 rfl NS.out.blk Tryz.underlying36 infoO ?_)
            | (refine wpList_storeB rfl 36 (.tmp 4) (.tmp 61) rfl (w.heap.size + 1 + 1) (nodeC ⟨id, conf, te, vo, ro, le, b, bt, es, snap, commit, left, wait, vs, ns, qs⟩ xS (([] : List MsgV)).length) rfl rfl HZS.out infoO rfl (nodeC_one _ _ _) ?_))
          have hld := run_loadVarB (P := Tryz.prog) (HZS.out.rowSame (nodeC ⟨id, conf, te, vo, ro, le, b, bt, es, snap, commit, left, wait, vs, ns, qs⟩ xS (([] : List MsgV)).length)) 36 Tryz.underlying36 infoO
          simp only [List.length_nil] at hld
          refine bodyPost_ret (v := .agg (nodeC ⟨id, conf, te, vo, ro, le, b, bt, es, snap, commit, left, wait, vs, ns, qs⟩ xS (([] : List MsgV)).length)) (by simp [results, Tryz.results7, asAddr, hld, Act.put]) rfl ?_
          rw [HQK.out]
          exact ⟨⟨xS, _, ([] : List MsgV), rfl, rfl, (Rest.row1 NS.out.rest.lowCol (lowCol_lt HLO.out) _).low HLO2.out⟩, bel_row HBS.out HZ2.out _⟩
        · have HQS := Lib.hid (show q = Rf.same ⟨id, conf, te, vo, ro, le, b, bt, es, snap, commit, left, wait, vs, ns, qs⟩ ⟨mk, ms, md, mt, mi, ml, mc, my, me, mdt⟩ from by
            have h2 : ¬ mt < term := fun h => by
              have hnt : ¬ term < mt := by omega
              have heq : (⟨id, conf, term, vote, role, leader, b, bt, es, snap, commit, left, wait, votes, next, mtch⟩ : Nod) = ⟨id, conf, te, vo, ro, le, b, bt, es, snap, commit, left, wait, vs, ns, qs⟩ := by have := HNW.out; unfold Rf.newer at this; exact (if_neg hnt).symm.trans this
              have ht : term = te := congrArg Nod.term heq
              omega
            rw [HQ2.out, if_neg h2, HNW.out])
          by_cases k1 : mk = 1
          · subst k1
            have HQK := Lib.hid (show q = Rf.ask ⟨id, conf, te, vo, ro, le, b, bt, es, snap, commit, left, wait, vs, ns, qs⟩ ⟨1, ms, md, mt, mi, ml, mc, my, me, mdt⟩ from HQS.out)
            go_wp2_with (refine wpList_loadB rfl 30 (.tmp 3) rfl (w.heap.size + 1) rfl HMS.out Tryz.underlying30 infoMs ?_)
            refine (voice_ask_calls NS (by simp) (Rf.es_le HBR1.out) ⟨1, ms, md, mt, mi, ml, mc, my, me, mdt⟩ rfl A cap).mono ?_
            rintro e w6 ⟨rfl, ⟨col6, x6, LV, -, -, hLV, hN6⟩, hb6⟩
            rw [List.nil_append] at hN6
            obtain ⟨s, hs⟩ : ∃ s, s = (Rf.ask ⟨id, conf, te, vo, ro, le, b, bt, es, snap, commit, left, wait, vs, ns, qs⟩ ⟨1, ms, md, mt, mi, ml, mc, my, me, mdt⟩).1 := ⟨_, rfl⟩
            obtain ⟨Ms, hMs⟩ : ∃ Ms, Ms = (Rf.ask ⟨id, conf, te, vo, ro, le, b, bt, es, snap, commit, left, wait, vs, ns, qs⟩ ⟨1, ms, md, mt, mi, ml, mc, my, me, mdt⟩).2 := ⟨_, rfl⟩
            rw [← hs] at hN6
            rw [← hMs] at hLV
            have HQ6 := Lib.hid (show q = (s, Ms) from by rw [HQK.out, hs, hMs])
            have HLV := Lib.hid hLV
            have N6 := Lib.hid hN6
            have HB6 := Lib.hid (HBS.out.trans (hb6.mono HLO2.out))
            have HZ6 := Lib.hid (HZS.out.below hb6 HLO.out)
            clear hs hMs hLV hN6 hb6 kT kM kK kR kS
            go_wp2_with (first
              | (refine wpList_loadB rfl 36 (.tmp 5) rfl g5 rfl N6.out.blk Tryz.underlying36 infoO ?_)
              | (refine wpList_storeB rfl 36 (.tmp 4) (.tmp 93) rfl (w.heap.size + 1 + 1) (nodeC s x6 (LV).length) rfl rfl HZ6.out infoO rfl (nodeC_one _ _ _) ?_))
            have hld := run_loadVarB (P := Tryz.prog) (HZ6.out.rowSame (nodeC s x6 (LV).length)) 36 Tryz.underlying36 infoO
            refine bodyPost_ret (v := .agg (nodeC s x6 (LV).length)) (by simp [results, Tryz.results7, asAddr, hld, Act.put]) rfl ?_
            rw [HQ6.out]
            exact ⟨⟨x6, _, LV, rfl, HLV.out, (Rest.row1 N6.out.rest.lowCol (lowCol_lt HLO.out) _).low HLO2.out⟩, bel_row HB6.out HZ2.out _⟩
          have kb1 : (mk == 1) = false := by rw [beq_eq_false_iff_ne]; exact k1
          by_cases k2 : mk = 2
          · subst k2
            have HQK := Lib.hid (show q = Rf.grant ⟨id, conf, te, vo, ro, le, b, bt, es, snap, commit, left, wait, vs, ns, qs⟩ ⟨2, ms, md, mt, mi, ml, mc, my, me, mdt⟩ from HQS.out)
            go_wp2_with (refine wpList_loadB rfl 30 (.tmp 3) rfl (w.heap.size + 1) rfl HMS.out Tryz.underlying30 infoMs ?_)
            refine (voice_grant_calls NS (by simp) HBR1 (Rf.votes_le HBR1.out HRL1.out) ⟨2, ms, md, mt, mi, ml, mc, my, me, mdt⟩ rfl A cap).mono ?_
            rintro e w6 ⟨rfl, ⟨col6, x6, LV, -, -, hLV, hN6⟩, hb6⟩
            rw [List.nil_append] at hN6
            obtain ⟨s, hs⟩ : ∃ s, s = (Rf.grant ⟨id, conf, te, vo, ro, le, b, bt, es, snap, commit, left, wait, vs, ns, qs⟩ ⟨2, ms, md, mt, mi, ml, mc, my, me, mdt⟩).1 := ⟨_, rfl⟩
            obtain ⟨Ms, hMs⟩ : ∃ Ms, Ms = (Rf.grant ⟨id, conf, te, vo, ro, le, b, bt, es, snap, commit, left, wait, vs, ns, qs⟩ ⟨2, ms, md, mt, mi, ml, mc, my, me, mdt⟩).2 := ⟨_, rfl⟩
            rw [← hs] at hN6
            rw [← hMs] at hLV
            have HQ6 := Lib.hid (show q = (s, Ms) from by rw [HQK.out, hs, hMs])
            have HLV := Lib.hid hLV
            have N6 := Lib.hid hN6
            have HB6 := Lib.hid (HBS.out.trans (hb6.mono HLO2.out))
            have HZ6 := Lib.hid (HZS.out.below hb6 HLO.out)
            clear hs hMs hLV hN6 hb6 kT kM kK kR kS
            go_wp2_with (first
              | (refine wpList_loadB rfl 36 (.tmp 5) rfl g5 rfl N6.out.blk Tryz.underlying36 infoO ?_)
              | (refine wpList_storeB rfl 36 (.tmp 4) (.tmp 93) rfl (w.heap.size + 1 + 1) (nodeC s x6 (LV).length) rfl rfl HZ6.out infoO rfl (nodeC_one _ _ _) ?_))
            have hld := run_loadVarB (P := Tryz.prog) (HZ6.out.rowSame (nodeC s x6 (LV).length)) 36 Tryz.underlying36 infoO
            refine bodyPost_ret (v := .agg (nodeC s x6 (LV).length)) (by simp [results, Tryz.results7, asAddr, hld, Act.put]) rfl ?_
            rw [HQ6.out]
            exact ⟨⟨x6, _, LV, rfl, HLV.out, (Rest.row1 N6.out.rest.lowCol (lowCol_lt HLO.out) _).low HLO2.out⟩, bel_row HB6.out HZ2.out _⟩
          have kb2 : (mk == 2) = false := by rw [beq_eq_false_iff_ne]; exact k2
          by_cases kr : ro = 2
          · have hld : Rf.Lead ⟨id, conf, te, vo, ro, le, b, bt, es, snap, commit, left, wait, vs, ns, qs⟩ := by
              rcases HRL1.out with ⟨a, _⟩ | ⟨a, _⟩ | ⟨_, _, a⟩
              · simp only at a; omega
              · simp only at a; omega
              · exact a
            have hrole : (⟨id, conf, te, vo, ro, le, b, bt, es, snap, commit, left, wait, vs, ns, qs⟩ : Nod).role = 2 := kr
            have HLD := Lib.hid hld
            have HRO := Lib.hid hrole
            have krb : (ro == 2) = true := by rw [beq_iff_eq]; exact kr
            have krn : (ro != 2) = false := by rw [kr]; rfl
            have HKR := Lib.hid kr
            clear hld hrole kr
            by_cases k4 : mk = 4
            · subst k4
              have HQK := Lib.hid (show q = Rf.ack ⟨id, conf, te, vo, ro, le, b, bt, es, snap, commit, left, wait, vs, ns, qs⟩ ⟨4, ms, md, mt, mi, ml, mc, my, me, mdt⟩ from HQS.out)
              go_wp2_with (refine wpList_loadB rfl 30 (.tmp 3) rfl (w.heap.size + 1) rfl HMS.out Tryz.underlying30 infoMs ?_)
              refine (acked_calls NS (by simp) HBR1 HRO.out HLD.out ⟨4, ms, md, mt, mi, ml, mc, my, me, mdt⟩ HTK1 A cap).mono ?_
              rintro e w6 ⟨rfl, ⟨col6, x6, LV, -, -, hLV, hN6⟩, hb6⟩
              rw [List.nil_append] at hN6
              obtain ⟨s, hs⟩ : ∃ s, s = (Rf.ack ⟨id, conf, te, vo, ro, le, b, bt, es, snap, commit, left, wait, vs, ns, qs⟩ ⟨4, ms, md, mt, mi, ml, mc, my, me, mdt⟩).1 := ⟨_, rfl⟩
              obtain ⟨Ms, hMs⟩ : ∃ Ms, Ms = (Rf.ack ⟨id, conf, te, vo, ro, le, b, bt, es, snap, commit, left, wait, vs, ns, qs⟩ ⟨4, ms, md, mt, mi, ml, mc, my, me, mdt⟩).2 := ⟨_, rfl⟩
              rw [← hs] at hN6
              rw [← hMs] at hLV
              have HQ6 := Lib.hid (show q = (s, Ms) from by rw [HQK.out, hs, hMs])
              have HLV := Lib.hid hLV
              have N6 := Lib.hid hN6
              have HB6 := Lib.hid (HBS.out.trans (hb6.mono HLO2.out))
              have HZ6 := Lib.hid (HZS.out.below hb6 HLO.out)
              clear hs hMs hLV hN6 hb6 kT kM kK kR kS
              go_wp2_with (first
                | (refine wpList_loadB rfl 36 (.tmp 5) rfl g5 rfl N6.out.blk Tryz.underlying36 infoO ?_)
                | (refine wpList_storeB rfl 36 (.tmp 4) (.tmp 93) rfl (w.heap.size + 1 + 1) (nodeC s x6 (LV).length) rfl rfl HZ6.out infoO rfl (nodeC_one _ _ _) ?_))
              have hld := run_loadVarB (P := Tryz.prog) (HZ6.out.rowSame (nodeC s x6 (LV).length)) 36 Tryz.underlying36 infoO
              refine bodyPost_ret (v := .agg (nodeC s x6 (LV).length)) (by simp [results, Tryz.results7, asAddr, hld, Act.put]) rfl ?_
              rw [HQ6.out]
              exact ⟨⟨x6, _, LV, rfl, HLV.out, (Rest.row1 N6.out.rest.lowCol (lowCol_lt HLO.out) _).low HLO2.out⟩, bel_row HB6.out HZ2.out _⟩
            have kb4 : (mk == 4) = false := by rw [beq_eq_false_iff_ne]; exact k4
            have HQK := Lib.hid (show q = (⟨id, conf, te, vo, ro, le, b, bt, es, snap, commit, left, wait, vs, ns, qs⟩, []) from by
              rw [HQS.out]; unfold Rf.same
              rw [if_neg k1, if_neg k2, if_neg k4, if_pos HKR.out])
            by_cases k3 : mk = 3
            · subst k3
              go_wp2_with (first
                | (refine wpList_loadB rfl 36 (.tmp 5) rfl g5 rfl NS.out.blk Tryz.underlying36 infoO ?_)
                | (refine wpList_storeB rfl 36 (.tmp 4) (.tmp 93) rfl (w.heap.size + 1 + 1) (nodeC ⟨id, conf, te, vo, ro, le, b, bt, es, snap, commit, left, wait, vs, ns, qs⟩ xS (([] : List MsgV)).length) rfl rfl HZS.out infoO rfl (nodeC_one _ _ _) ?_))
              have hld := run_loadVarB (P := Tryz.prog) (HZS.out.rowSame (nodeC ⟨id, conf, te, vo, ro, le, b, bt, es, snap, commit, left, wait, vs, ns, qs⟩ xS (([] : List MsgV)).length)) 36 Tryz.underlying36 infoO
              simp only [List.length_nil] at hld
              refine bodyPost_ret (v := .agg (nodeC ⟨id, conf, te, vo, ro, le, b, bt, es, snap, commit, left, wait, vs, ns, qs⟩ xS (([] : List MsgV)).length)) (by simp [results, Tryz.results7, asAddr, hld, Act.put]) rfl ?_
              rw [HQK.out]
              exact ⟨⟨xS, _, ([] : List MsgV), rfl, rfl, (Rest.row1 NS.out.rest.lowCol (lowCol_lt HLO.out) _).low HLO2.out⟩, bel_row HBS.out HZ2.out _⟩
            have k5 : mk = 5 := by have h0 := HTK1.out.k0; have h1 := HTK1.out.k1; simp only at h0 h1; omega
            subst k5
            go_wp2_with (first
              | (refine wpList_loadB rfl 36 (.tmp 5) rfl g5 rfl NS.out.blk Tryz.underlying36 infoO ?_)
              | (refine wpList_storeB rfl 36 (.tmp 4) (.tmp 93) rfl (w.heap.size + 1 + 1) (nodeC ⟨id, conf, te, vo, ro, le, b, bt, es, snap, commit, left, wait, vs, ns, qs⟩ xS (([] : List MsgV)).length) rfl rfl HZS.out infoO rfl (nodeC_one _ _ _) ?_))
            have hld := run_loadVarB (P := Tryz.prog) (HZS.out.rowSame (nodeC ⟨id, conf, te, vo, ro, le, b, bt, es, snap, commit, left, wait, vs, ns, qs⟩ xS (([] : List MsgV)).length)) 36 Tryz.underlying36 infoO
            simp only [List.length_nil] at hld
            refine bodyPost_ret (v := .agg (nodeC ⟨id, conf, te, vo, ro, le, b, bt, es, snap, commit, left, wait, vs, ns, qs⟩ xS (([] : List MsgV)).length)) (by simp [results, Tryz.results7, asAddr, hld, Act.put]) rfl ?_
            rw [HQK.out]
            exact ⟨⟨xS, _, ([] : List MsgV), rfl, rfl, (Rest.row1 NS.out.rest.lowCol (lowCol_lt HLO.out) _).low HLO2.out⟩, bel_row HBS.out HZ2.out _⟩
          have hr0 : ns = [] ∧ qs = [] := by
            rcases HRL1.out with ⟨_, _, a, c⟩ | ⟨_, _, a, c⟩ | ⟨a, _⟩
            · exact ⟨a, c⟩
            · exact ⟨a, c⟩
            · exact absurd a kr
          have HNS := Lib.hid hr0.1
          have HQSN := Lib.hid hr0.2
          have krb : (ro == 2) = false := by rw [beq_eq_false_iff_ne]; exact kr
          have krn : (ro != 2) = true := by rw [bne_iff_ne]; exact kr
          have HKR := Lib.hid kr
          clear hr0 kr
          by_cases k4 : mk = 4
          · subst k4
            have HQK := Lib.hid (show q = (⟨id, conf, te, vo, ro, le, b, bt, es, snap, commit, left, wait, vs, ns, qs⟩, []) from by rw [HQS.out]; show Rf.ack _ _ = _; unfold Rf.ack; exact if_pos (.inl HKR.out))
            go_wp2_with (first
              | (refine wpList_loadB rfl 36 (.tmp 5) rfl g5 rfl NS.out.blk Tryz.underlying36 infoO ?_)
              | (refine wpList_storeB rfl 36 (.tmp 4) (.tmp 93) rfl (w.heap.size + 1 + 1) (nodeC ⟨id, conf, te, vo, ro, le, b, bt, es, snap, commit, left, wait, vs, ns, qs⟩ xS (([] : List MsgV)).length) rfl rfl HZS.out infoO rfl (nodeC_one _ _ _) ?_))
            have hld := run_loadVarB (P := Tryz.prog) (HZS.out.rowSame (nodeC ⟨id, conf, te, vo, ro, le, b, bt, es, snap, commit, left, wait, vs, ns, qs⟩ xS (([] : List MsgV)).length)) 36 Tryz.underlying36 infoO
            simp only [List.length_nil] at hld
            refine bodyPost_ret (v := .agg (nodeC ⟨id, conf, te, vo, ro, le, b, bt, es, snap, commit, left, wait, vs, ns, qs⟩ xS (([] : List MsgV)).length)) (by simp [results, Tryz.results7, asAddr, hld, Act.put]) rfl ?_
            rw [HQK.out]
            exact ⟨⟨xS, _, ([] : List MsgV), rfl, rfl, (Rest.row1 NS.out.rest.lowCol (lowCol_lt HLO.out) _).low HLO2.out⟩, bel_row HBS.out HZ2.out _⟩
          have kb4 : (mk == 4) = false := by rw [beq_eq_false_iff_ne]; exact k4
          by_cases k3 : mk = 3
          · subst k3
            have HQK := Lib.hid (show q = Rf.take ⟨id, conf, te, vo, ro, le, b, bt, es, snap, commit, left, wait, vs, ns, qs⟩ ⟨3, ms, md, mt, mi, ml, mc, my, me, mdt⟩ from by rw [HQS.out]; unfold Rf.same; rw [if_neg k1, if_neg k2, if_neg k4, if_neg HKR.out]; rfl)
            go_wp2_with (refine wpList_loadB rfl 30 (.tmp 3) rfl (w.heap.size + 1) rfl HMS.out Tryz.underlying30 infoMs ?_)
            refine (pushed_calls NS (by simp) HBR1 HNS.out HQSN.out ⟨3, ms, md, mt, mi, ml, mc, my, me, mdt⟩ HTK1 A cap (Lib.hid ⟨HME.out.1, hm.out.2.bel HBS.out, fun h0 b off sp e => Nat.lt_of_lt_of_le (HME.out.2 h0 b off sp e) HLO2.out⟩)).mono ?_
            rintro e w6 ⟨rfl, ⟨col6, x6, LV, -, -, hLV, hN6⟩, hb6⟩
            rw [List.nil_append] at hN6
            obtain ⟨s, hs⟩ : ∃ s, s = (Rf.take ⟨id, conf, te, vo, ro, le, b, bt, es, snap, commit, left, wait, vs, ns, qs⟩ ⟨3, ms, md, mt, mi, ml, mc, my, me, mdt⟩).1 := ⟨_, rfl⟩
            obtain ⟨Ms, hMs⟩ : ∃ Ms, Ms = (Rf.take ⟨id, conf, te, vo, ro, le, b, bt, es, snap, commit, left, wait, vs, ns, qs⟩ ⟨3, ms, md, mt, mi, ml, mc, my, me, mdt⟩).2 := ⟨_, rfl⟩
            rw [← hs] at hN6
            rw [← hMs] at hLV
            have HQ6 := Lib.hid (show q = (s, Ms) from by rw [HQK.out, hs, hMs])
            have HLV := Lib.hid hLV
            have N6 := Lib.hid hN6
            have HB6 := Lib.hid (HBS.out.trans (hb6.mono HLO2.out))
            have HZ6 := Lib.hid (HZS.out.below hb6 HLO.out)
            clear hs hMs hLV hN6 hb6 kT kM kK kR kS
            go_wp2_with (first
              | (refine wpList_loadB rfl 36 (.tmp 5) rfl g5 rfl N6.out.blk Tryz.underlying36 infoO ?_)
              | (refine wpList_storeB rfl 36 (.tmp 4) (.tmp 93) rfl (w.heap.size + 1 + 1) (nodeC s x6 (LV).length) rfl rfl HZ6.out infoO rfl (nodeC_one _ _ _) ?_))
            have hld := run_loadVarB (P := Tryz.prog) (HZ6.out.rowSame (nodeC s x6 (LV).length)) 36 Tryz.underlying36 infoO
            refine bodyPost_ret (v := .agg (nodeC s x6 (LV).length)) (by simp [results, Tryz.results7, asAddr, hld, Act.put]) rfl ?_
            rw [HQ6.out]
            exact ⟨⟨x6, _, LV, rfl, HLV.out, (Rest.row1 N6.out.rest.lowCol (lowCol_lt HLO.out) _).low HLO2.out⟩, bel_row HB6.out HZ2.out _⟩
          have k5 : mk = 5 := by have h0 := HTK1.out.k0; have h1 := HTK1.out.k1; simp only at h0 h1; omega
          have HQK := Lib.hid (show q = Rf.bundle ⟨id, conf, te, vo, ro, le, b, bt, es, snap, commit, left, wait, vs, ns, qs⟩ ⟨mk, ms, md, mt, mi, ml, mc, my, me, mdt⟩ from by rw [HQS.out]; unfold Rf.same; rw [if_neg k1, if_neg k2, if_neg k4, if_neg HKR.out, if_neg k3])
          subst k5
          go_wp2_with (refine wpList_loadB rfl 30 (.tmp 3) rfl (w.heap.size + 1) rfl HMS.out Tryz.underlying30 infoMs ?_)
          refine (bundled_calls NS (by simp) HBR1 HNS.out HQSN.out ⟨5, ms, md, mt, mi, ml, mc, my, me, mdt⟩ HTK1 A cap).mono ?_
          rintro e w6 ⟨rfl, ⟨col6, x6, LV, -, -, hLV, hN6⟩, hb6⟩
          rw [List.nil_append] at hN6
          obtain ⟨s, hs⟩ : ∃ s, s = (Rf.bundle ⟨id, conf, te, vo, ro, le, b, bt, es, snap, commit, left, wait, vs, ns, qs⟩ ⟨5, ms, md, mt, mi, ml, mc, my, me, mdt⟩).1 := ⟨_, rfl⟩
          obtain ⟨Ms, hMs⟩ : ∃ Ms, Ms = (Rf.bundle ⟨id, conf, te, vo, ro, le, b, bt, es, snap, commit, left, wait, vs, ns, qs⟩ ⟨5, ms, md, mt, mi, ml, mc, my, me, mdt⟩).2 := ⟨_, rfl⟩
          rw [← hs] at hN6
          rw [← hMs] at hLV
          have HQ6 := Lib.hid (show q = (s, Ms) from by rw [HQK.out, hs, hMs])
          have HLV := Lib.hid hLV
          have N6 := Lib.hid hN6
          have HB6 := Lib.hid (HBS.out.trans (hb6.mono HLO2.out))
          have HZ6 := Lib.hid (HZS.out.below hb6 HLO.out)
          clear hs hMs hLV hN6 hb6 kT kM kK kR kS
          go_wp2_with (first
            | (refine wpList_loadB rfl 36 (.tmp 5) rfl g5 rfl N6.out.blk Tryz.underlying36 infoO ?_)
            | (refine wpList_storeB rfl 36 (.tmp 4) (.tmp 93) rfl (w.heap.size + 1 + 1) (nodeC s x6 (LV).length) rfl rfl HZ6.out infoO rfl (nodeC_one _ _ _) ?_))
          have hld := run_loadVarB (P := Tryz.prog) (HZ6.out.rowSame (nodeC s x6 (LV).length)) 36 Tryz.underlying36 infoO
          refine bodyPost_ret (v := .agg (nodeC s x6 (LV).length)) (by simp [results, Tryz.results7, asAddr, hld, Act.put]) rfl ?_
          rw [HQ6.out]
          exact ⟨⟨x6, _, LV, rfl, HLV.out, (Rest.row1 N6.out.rest.lowCol (lowCol_lt HLO.out) _).low HLO2.out⟩, bel_row HB6.out HZ2.out _⟩
end Go.Proofs.YtdladjgdhnkkcaaGreat
