
/-
  RaftTicks: what any node, right or not, becomes and sends.
  No condition.
-/
import Derived.Test.YtdladjgdhnkkcaaGreatZRg12
import Derived.Test.YtdladjgdhnkkcaaGreatZRf28ToRg11
import Derived.BigQuiet
import Derived.Deep.Cut
namespace Go.Proofs.YtdladjgdhnkkcaaGreat.lawRaftTicks
open Go.ChangeShapes Go.WideShapes Go.ChangeAt Go.RowKit Go.Deep
set_option linter.unusedVariables false
set_option linter.unusedSimpArgs false
set_option maxHeartbeats 20000000

set_option maxRecDepth 100000 in
theorem walk (r : Nod) (x : NdX) (d : Int) (w : World) (h : Hid (RdR w r x)) (hd0 : -9223372036854775808 ≤ d) (hd1 : d ≤ 9223372036854775807) :
    Calls Tryz.prog 4 #[raftV r x, .int .i64 d] w fun e w' => e = .returned (.bool true) ∧ Below w.heap.size w w' := by
  obtain ⟨q, hq⟩ : ∃ q, q = Rf.tick r d := ⟨_, rfl⟩
  have ZQ := Lib.hid (show Sz q.1 by rw [hq]; exact Rf.tick_sz h.out.sz d)
  have HTC := Lib.hid (fun (W : World) (hb : Below w.heap.size w W) => tick_calls r x W (Lib.hid (h.out.bel hb)) d hd0 hd1)
  have HRC := Lib.hid (fun (W : World) (hb : Below w.heap.size w W) => rtick_calls r x W (Lib.hid (h.out.bel hb)) d hd0 hd1)
  rw [← hq] at HTC HRC
  clear hq
  have HK1 : Hid (T1 w r x (w.alloc (.cells #[.int .i64 r.id, .slice x.cA r.conf.length x.cc, .int .i64 r.term, .int .i64 r.vote, .int .i64 r.role, .int .i64 r.leader, .int .i64 r.b, .int .i64 r.bt, .slice x.eA r.es.length x.ec, .string r.snap, .int .i64 r.commit, .int .i64 r.left, .int .i64 r.wait, .slice x.vA r.votes.length x.vc, .slice x.nA r.next.length x.nc, .slice x.mA r.mtch.length x.mc] 28))) := Lib.hid ⟨bel_new (Below.refl w.heap.size w) _, Blk.new w _ _⟩
  go_enter Tryz.func4, Tryz.ntmps4
  go_upto_region 1 with (fail)
  generalize w.alloc (.cells #[.int .i64 r.id, .slice x.cA r.conf.length x.cc, .int .i64 r.term, .int .i64 r.vote, .int .i64 r.role, .int .i64 r.leader, .int .i64 r.b, .int .i64 r.bt, .slice x.eA r.es.length x.ec, .string r.snap, .int .i64 r.commit, .int .i64 r.left, .int .i64 r.wait, .slice x.vA r.votes.length x.vc, .slice x.nA r.next.length x.nc, .slice x.mA r.mtch.length x.mc] 28) = w1 at *
  go_wp2_with fail
  refine (raft_awake w1).mono ?_
  rintro e w2 ⟨rfl, hb2⟩
  have HK2 := Lib.hid (HK1.out.to hb2)
  clear hb2 HK1
  go_upto_region 3 with (fail)
  -- what the program answers
  go_wp2_with (refine wpList_loadB rfl 28 (.tmp 2) rfl w.heap.size rfl HK2.out.b2 Tryz.underlying28 infoR ?_)
  refine (HTC.out w2 HK2.out.bel).mono ?_
  rintro e w3 ⟨⟨xA, colA, LA, rfl, hMA, hRA⟩, hb3⟩
  have HMA := Lib.hid hMA
  have HK3 := Lib.hid (HK2.out.to hb3)
  have HRA := Lib.hid hRA
  have HLA := Lib.hid hRA.rdM.2
  have HXA := Lib.hid (boxed w3 28 #[.int .i64 0, .slice none 0 0, .int .i64 0, .int .i64 0, .int .i64 0, .int .i64 0, .int .i64 0, .int .i64 0, .slice none 0 0, .string ⟨#[]⟩, .int .i64 0, .int .i64 0, .int .i64 0, .slice none 0 0, .slice none 0 0, .slice none 0 0] (raftL q.1 xA).toArray)
  have HZA := Lib.hid (Blk.new w3 28 #[.int .i64 0, .slice none 0 0, .int .i64 0, .int .i64 0, .int .i64 0, .int .i64 0, .int .i64 0, .int .i64 0, .slice none 0 0, .string ⟨#[]⟩, .int .i64 0, .int .i64 0, .int .i64 0, .slice none 0 0, .slice none 0 0, .slice none 0 0])
  clear hMA hRA hb3 HK2 HTC
  go_upto_region 4 with (refine wpList_storeB rfl 28 (.tmp 5) (.tmp 14) rfl w3.heap.size (raftL q.1 xA).toArray rfl rfl HZA.out infoR rfl (raftL_one _ _) ?_)
  have HK4 := Lib.hid (HK3.out.to HXA.out.1)
  have TA4 := Lib.hid (show T2 q.1 w3.heap.size xA LA _ from ⟨HXA.out.2, (HRA.out.rd_of ZQ.out).bel HXA.out.1, HRA.out.rdM.1.bel HXA.out.1⟩)
  generalize (w3.alloc (.cells #[.int .i64 0, .slice none 0 0, .int .i64 0, .int .i64 0, .int .i64 0, .int .i64 0, .int .i64 0, .int .i64 0, .slice none 0 0, .string ⟨#[]⟩, .int .i64 0, .int .i64 0, .int .i64 0, .slice none 0 0, .slice none 0 0, .slice none 0 0] 28)).setRow w3.heap.size (raftL q.1 xA).toArray = w4 at *
  generalize w3.heap.size = gA at *
  clear HXA HZA HK3 HRA
  -- what the reference answers
  go_wp2_with (refine wpList_loadB rfl 28 (.tmp 2) rfl w.heap.size rfl HK4.out.b2 Tryz.underlying28 infoR ?_)
  refine (HRC.out w4 HK4.out.bel).mono ?_
  rintro e w5 ⟨⟨xO, colO, LO, rfl, hMO, hRO⟩, hb5⟩
  have HMO := Lib.hid (HMA.out.trans hMO.symm)
  have HK5 := Lib.hid (HK4.out.to hb5)
  have TA5 := Lib.hid (TA4.out.to hb5)
  have HRO := Lib.hid hRO
  have HXO := Lib.hid (boxed w5 36 #[.int .i64 0, .slice none 0 0, .int .i64 0, .int .i64 0, .int .i64 0, .int .i64 0, .int .i64 0, .int .i64 0, .slice none 0 0, .string ⟨#[]⟩, .int .i64 0, .int .i64 0, .int .i64 0, .slice none 0 0, .slice none 0 0, .slice none 0 0, .slice none 0 0] (nodeC q.1 xO LO.length))
  have HZO := Lib.hid (Blk.new w5 36 #[.int .i64 0, .slice none 0 0, .int .i64 0, .int .i64 0, .int .i64 0, .int .i64 0, .int .i64 0, .int .i64 0, .slice none 0 0, .string ⟨#[]⟩, .int .i64 0, .int .i64 0, .int .i64 0, .slice none 0 0, .slice none 0 0, .slice none 0 0, .slice none 0 0])
  clear hMO hRO hb5 HK4 TA4 HRC HMA
  go_upto_region 5 with (refine wpList_storeB rfl 36 (.tmp 7) (.tmp 18) rfl w5.heap.size (nodeC q.1 xO LO.length) rfl rfl HZO.out infoO rfl (nodeC_one _ _ _) ?_)
  have HK6 := Lib.hid (HK5.out.to HXO.out.1)
  have TA6 := Lib.hid (TA5.out.to HXO.out.1)
  have TO6 := Lib.hid (show T3 q.1 w5.heap.size xO LO _ from ⟨HXO.out.2, (HRO.out.rd_of ZQ.out).bel HXO.out.1, HRO.out.rdM.1.bel HXO.out.1⟩)
  generalize (w5.alloc (.cells #[.int .i64 0, .slice none 0 0, .int .i64 0, .int .i64 0, .int .i64 0, .int .i64 0, .int .i64 0, .int .i64 0, .slice none 0 0, .string ⟨#[]⟩, .int .i64 0, .int .i64 0, .int .i64 0, .slice none 0 0, .slice none 0 0, .slice none 0 0, .slice none 0 0] 36)).setRow w5.heap.size (nodeC q.1 xO LO.length) = w6 at *
  generalize w5.heap.size = gO at *
  clear HXO HZO HK5 TA5 HRO
  obtain ⟨c, hc⟩ : ∃ c, c = Rf.chk r := ⟨_, rfl⟩
  have HCK := Lib.hid (fun (W : World) (hb : Below w.heap.size w W) => rfcheck_calls r x W (Lib.hid (h.out.bel hb)))
  have HCR := Lib.hid (fun (W : World) (hb : Below w.heap.size w W) => rfcheck14_calls r x W (Lib.hid (h.out.bel hb)))
  rw [← hc] at HCK HCR
  clear hc
  obtain ⟨rs, hrs⟩ : ∃ rs, rs = Rf.restart r := ⟨_, rfl⟩
  have ZS := Lib.hid (show Sz rs by rw [hrs]; exact restart_sz h.out.sz)
  have HSA := Lib.hid (fun (W : World) (hb : Below w.heap.size w W) => restart_calls r x W (Lib.hid (h.out.bel hb)))
  have HSB := Lib.hid (fun (W : World) (hb : Below w.heap.size w W) => rrestart_calls r x W (Lib.hid (h.out.bel hb)))
  rw [← hrs] at HSA HSB
  clear hrs
  have HK7 := Lib.hid (HK6.out.to (bel_drew (Below.refl _ _)))
  have TA7 := Lib.hid (TA6.out.to (bel_drew (Below.refl _ _)))
  have TO7 := Lib.hid (TO6.out.to (bel_drew (Below.refl _ _)))
  clear HK6 TA6 TO6
  refine wp_region_heldD (S := fun W => Blk W w.heap.size 28 (raftL r x).toArray ∧ Blk W gA 28 (raftL q.1 xA).toArray ∧ Blk W gO 36 (nodeC q.1 xO LO.length)) (by kernel_rfl) ?_
  have hS := And.intro HK7.out.b2 (And.intro TA7.out.bA TO7.out.bO)
  generalize w6.drew = w7 at *
  refine wpAnyH_take (i := 0) (v := .agg (raftL r x).toArray) rfl (by kernel_rfl) (by kernel_rfl) (by kernel_rfl) (fun _ _ _ h => h) (yieldsIf_load_mid (by rfl) _ _ rfl w.heap.size 0 rfl (raftL r x) _ (fun W hW => Blk.range hW.1 _ rfl) Tryz.underlying28 rfl infoR) hS ?_
  try simp only [Act.put, List.getElem_toArray, List.getElem_cons_zero, List.getElem_cons_succ, List.setIfInBounds_toArray, List.set_cons_zero, List.set_cons_succ]
  refine wpAnyH_take (i := 2) (v := .agg (raftL r x).toArray) rfl (by kernel_rfl) (by kernel_rfl) (by kernel_rfl) (fun _ _ _ h => h) (yieldsIf_load_mid (by rfl) _ _ rfl w.heap.size 0 rfl (raftL r x) _ (fun W hW => Blk.range hW.1 _ rfl) Tryz.underlying28 rfl infoR) hS ?_
  try simp only [Act.put, List.getElem_toArray, List.getElem_cons_zero, List.getElem_cons_succ, List.setIfInBounds_toArray, List.set_cons_zero, List.set_cons_succ]
  refine wpAnyH_oneG (i := 1) (by kernel_rfl) rfl (by rfl) ?_
  intro K hK
  simp only [List.getElem_toArray, List.getElem_cons_succ, List.getElem_cons_zero]
  go_simp
  refine (HCK.out w7 HK7.out.bel).mono ?_
  rintro e w8 ⟨rfl, hbn⟩
  have HK8 := Lib.hid (HK7.out.to hbn)
  have TA8 := Lib.hid (TA7.out.to hbn)
  have TO8 := Lib.hid (TO7.out.to hbn)
  clear hS hbn HK7 TA7 TO7
  have hS := And.intro HK8.out.b2 (And.intro TA8.out.bA TO8.out.bO)
  refine hK _ _ hS ?_
  clear hK K
  try simp only [Act.put, List.getElem_toArray, List.getElem_cons_zero, List.getElem_cons_succ, List.setIfInBounds_toArray, List.set_cons_zero, List.set_cons_succ]
  refine wpAnyH_oneG (i := 3) (by kernel_rfl) rfl (by rfl) ?_
  intro K hK
  simp only [List.getElem_toArray, List.getElem_cons_succ, List.getElem_cons_zero]
  go_simp
  refine (HCR.out w8 HK8.out.bel).mono ?_
  rintro e w9 ⟨rfl, hbn⟩
  have HK9 := Lib.hid (HK8.out.to hbn)
  have TA9 := Lib.hid (TA8.out.to hbn)
  have TO9 := Lib.hid (TO8.out.to hbn)
  clear hS hbn HK8 TA8 TO8
  have hS := And.intro HK9.out.b2 (And.intro TA9.out.bA TO9.out.bO)
  refine hK _ _ hS ?_
  clear hK K
  try simp only [Act.put, List.getElem_toArray, List.getElem_cons_zero, List.getElem_cons_succ, List.setIfInBounds_toArray, List.set_cons_zero, List.set_cons_succ]
  refine wpAnyH_take (i := 4) (v := .bool true) rfl (by kernel_rfl) (by kernel_rfl) (by kernel_rfl) (fun _ _ _ h => h) (Or.inl ⟨by rfl, fun W hW => by go_simp⟩) hS ?_
  try simp only [Act.put, List.getElem_toArray, List.getElem_cons_zero, List.getElem_cons_succ, List.setIfInBounds_toArray, List.set_cons_zero, List.set_cons_succ]
  refine wpAnyH_take (i := 5) (v := .bool true) rfl (by kernel_rfl) (by kernel_rfl) (by kernel_rfl) (fun _ _ _ h => h) (Or.inl ⟨by rfl, fun W hW => by go_simp⟩) hS ?_
  try simp only [Act.put, List.getElem_toArray, List.getElem_cons_zero, List.getElem_cons_succ, List.setIfInBounds_toArray, List.set_cons_zero, List.set_cons_succ]
  refine wpAnyH_take (i := 6) (v := .agg (raftL q.1 xA).toArray) rfl (by kernel_rfl) (by kernel_rfl) (by kernel_rfl) (fun _ _ _ h => h) (yieldsIf_load_mid (by rfl) _ _ rfl gA 0 rfl (raftL q.1 xA) _ (fun W hW => Blk.range hW.2.1 _ rfl) Tryz.underlying28 rfl infoR) hS ?_
  try simp only [Act.put, List.getElem_toArray, List.getElem_cons_zero, List.getElem_cons_succ, List.setIfInBounds_toArray, List.set_cons_zero, List.set_cons_succ]
  refine wpAnyH_take (i := 7) (v := .pointer (some ⟨gO, 0, none⟩)) rfl (by kernel_rfl) (by kernel_rfl) (by kernel_rfl) (fun _ _ _ h => h) (Or.inl ⟨by rfl, fun W hW => by go_simp⟩) hS ?_
  try simp only [Act.put, List.getElem_toArray, List.getElem_cons_zero, List.getElem_cons_succ, List.setIfInBounds_toArray, List.set_cons_zero, List.set_cons_succ]
  refine wpAnyH_take (i := 8) (v := .agg (raftL q.1 xO).toArray) rfl (by kernel_rfl) (by kernel_rfl) (by kernel_rfl) (fun _ _ _ h => h) (yieldsIf_load_mid (by rfl) _ _ rfl gO 0 rfl (raftL q.1 xO) _ (fun W hW => Blk.range hW.2.2 _ rfl) Tryz.underlying28 rfl infoR) hS ?_
  try simp only [Act.put, List.getElem_toArray, List.getElem_cons_zero, List.getElem_cons_succ, List.setIfInBounds_toArray, List.set_cons_zero, List.set_cons_succ]
  refine wpAnyH_oneG (i := 9) (by kernel_rfl) rfl (by rfl) ?_
  intro K hK
  simp only [List.getElem_toArray, List.getElem_cons_succ, List.getElem_cons_zero]
  go_simp
  refine (rsame14_calls q.1 xA xO w9 (Lib.hid TA9.out.rA) (Lib.hid TO9.out.rO)).mono ?_
  rintro e wA ⟨rfl, hbn⟩
  have HKA := Lib.hid (HK9.out.to hbn)
  have TAA := Lib.hid (TA9.out.to hbn)
  have TOA := Lib.hid (TO9.out.to hbn)
  clear hS hbn HK9 TA9 TO9
  have hS := And.intro HKA.out.b2 (And.intro TAA.out.bA TOA.out.bO)
  refine hK _ _ hS ?_
  clear hK K
  try simp only [Act.put, List.getElem_toArray, List.getElem_cons_zero, List.getElem_cons_succ, List.setIfInBounds_toArray, List.set_cons_zero, List.set_cons_succ]
  refine wpAnyH_take (i := 10) (v := .bool true) rfl (by kernel_rfl) (by kernel_rfl) (by kernel_rfl) (fun _ _ _ h => h) (Or.inl ⟨by rfl, fun W hW => by go_simp⟩) hS ?_
  try simp only [Act.put, List.getElem_toArray, List.getElem_cons_zero, List.getElem_cons_succ, List.setIfInBounds_toArray, List.set_cons_zero, List.set_cons_succ]
  refine wpAnyH_take (i := 11) (v := .bool true) rfl (by kernel_rfl) (by kernel_rfl) (by kernel_rfl) (fun _ _ _ h => h) (Or.inl ⟨by rfl, fun W hW => by go_simp⟩) hS ?_
  try simp only [Act.put, List.getElem_toArray, List.getElem_cons_zero, List.getElem_cons_succ, List.setIfInBounds_toArray, List.set_cons_zero, List.set_cons_succ]
  refine wpAnyH_take (i := 12) (v := .slice xA.oA LA.length xA.oc) rfl (by kernel_rfl) (by kernel_rfl) (by kernel_rfl) (fun _ _ _ h => h) (Or.inl ⟨by rfl, fun W hW => by go_simp⟩) hS ?_
  try simp only [Act.put, List.getElem_toArray, List.getElem_cons_zero, List.getElem_cons_succ, List.setIfInBounds_toArray, List.set_cons_zero, List.set_cons_succ]
  refine wpAnyH_take (i := 13) (v := .pointer (some ⟨gO, 16, none⟩)) rfl (by kernel_rfl) (by kernel_rfl) (by kernel_rfl) (fun _ _ _ h => h) (Or.inl ⟨by rfl, fun W hW => by go_simp⟩) hS ?_
  try simp only [Act.put, List.getElem_toArray, List.getElem_cons_zero, List.getElem_cons_succ, List.setIfInBounds_toArray, List.set_cons_zero, List.set_cons_succ]
  refine wpAnyH_take (i := 14) (v := .slice xO.oA LO.length xO.oc) rfl (by kernel_rfl) (by kernel_rfl) (by kernel_rfl) (fun _ _ _ h => h) (Or.inl ⟨by rfl, fun W hW => by
    have h16 : W.cell? ⟨gO, 16, none⟩ = some (.slice xO.oA LO.length xO.oc) := Blk.cells hW.2.2 16
    clear hW
    go_simp⟩) hS ?_
  try simp only [Act.put, List.getElem_toArray, List.getElem_cons_zero, List.getElem_cons_succ, List.setIfInBounds_toArray, List.set_cons_zero, List.set_cons_succ]
  refine wpAnyH_oneG (i := 15) (by kernel_rfl) rfl (by rfl) ?_
  intro K hK
  simp only [List.getElem_toArray, List.getElem_cons_succ, List.getElem_cons_zero]
  go_simp
  refine (rmessages_calls xA.oA xO.oA xA.oc xO.oc LA LO wA (Lib.hid TAA.out.mA) (Lib.hid TOA.out.mO) HMO HLA.out).mono ?_
  rintro e wB ⟨rfl, hbn⟩
  have HKB := Lib.hid (HKA.out.to hbn)
  have TAB := Lib.hid (TAA.out.to hbn)
  have TOB := Lib.hid (TOA.out.to hbn)
  clear hS hbn HKA TAA TOA
  have hS := And.intro HKB.out.b2 (And.intro TAB.out.bA TOB.out.bO)
  refine hK _ _ hS ?_
  clear hK K
  try simp only [Act.put, List.getElem_toArray, List.getElem_cons_zero, List.getElem_cons_succ, List.setIfInBounds_toArray, List.set_cons_zero, List.set_cons_succ]
  refine wpAnyH_take (i := 16) (v := .bool true) rfl (by kernel_rfl) (by kernel_rfl) (by kernel_rfl) (fun _ _ _ h => h) (Or.inl ⟨by rfl, fun W hW => by go_simp⟩) hS ?_
  try simp only [Act.put, List.getElem_toArray, List.getElem_cons_zero, List.getElem_cons_succ, List.setIfInBounds_toArray, List.set_cons_zero, List.set_cons_succ]
  refine wpAnyH_take (i := 17) (v := .bool true) rfl (by kernel_rfl) (by kernel_rfl) (by kernel_rfl) (fun _ _ _ h => h) (Or.inl ⟨by rfl, fun W hW => by go_simp⟩) hS ?_
  try simp only [Act.put, List.getElem_toArray, List.getElem_cons_zero, List.getElem_cons_succ, List.setIfInBounds_toArray, List.set_cons_zero, List.set_cons_succ]
  refine wpAnyH_take (i := 18) (v := .agg (raftL r x).toArray) rfl (by kernel_rfl) (by kernel_rfl) (by kernel_rfl) (fun _ _ _ h => h) (yieldsIf_load_mid (by rfl) _ _ rfl w.heap.size 0 rfl (raftL r x) _ (fun W hW => Blk.range hW.1 _ rfl) Tryz.underlying28 rfl infoR) hS ?_
  try simp only [Act.put, List.getElem_toArray, List.getElem_cons_zero, List.getElem_cons_succ, List.setIfInBounds_toArray, List.set_cons_zero, List.set_cons_succ]
  refine wpAnyH_take (i := 20) (v := .agg (raftL r x).toArray) rfl (by kernel_rfl) (by kernel_rfl) (by kernel_rfl) (fun _ _ _ h => h) (yieldsIf_load_mid (by rfl) _ _ rfl w.heap.size 0 rfl (raftL r x) _ (fun W hW => Blk.range hW.1 _ rfl) Tryz.underlying28 rfl infoR) hS ?_
  try simp only [Act.put, List.getElem_toArray, List.getElem_cons_zero, List.getElem_cons_succ, List.setIfInBounds_toArray, List.set_cons_zero, List.set_cons_succ]
  refine wpAnyH_oneG (i := 19) (by kernel_rfl) rfl (by rfl) ?_
  intro K hK
  simp only [List.getElem_toArray, List.getElem_cons_succ, List.getElem_cons_zero]
  go_simp
  refine (HSA.out wB HKB.out.bel).mono ?_
  rintro e wC ⟨⟨xS, colS, rfl, hRS⟩, hbn⟩
  have HKC := Lib.hid (HKB.out.to hbn)
  have TAC := Lib.hid (TAB.out.to hbn)
  have TOC := Lib.hid (TOB.out.to hbn)
  have HRS := Lib.hid (rdR_out (hRS.rd_of ZS.out))
  clear hRS
  clear hS hbn HKB TAB TOB
  have hS := And.intro HKC.out.b2 (And.intro TAC.out.bA TOC.out.bO)
  refine hK _ _ hS ?_
  clear hK K
  try simp only [Act.put, List.getElem_toArray, List.getElem_cons_zero, List.getElem_cons_succ, List.setIfInBounds_toArray, List.set_cons_zero, List.set_cons_succ]
  refine wpAnyH_oneG (i := 21) (by kernel_rfl) rfl (by rfl) ?_
  intro K hK
  simp only [List.getElem_toArray, List.getElem_cons_succ, List.getElem_cons_zero]
  go_simp
  refine (HSB.out wC HKC.out.bel).mono ?_
  rintro e wD ⟨⟨xT, colT, rfl, hRT⟩, hbn⟩
  have HKD := Lib.hid (HKC.out.to hbn)
  have TAD := Lib.hid (TAC.out.to hbn)
  have TOD := Lib.hid (TOC.out.to hbn)
  have HRT := Lib.hid (rdR_out (hRT.rd_of ZS.out))
  have HRS2 := Lib.hid (HRS.out.bel hbn)
  clear hRT
  clear hS hbn HKC TAC TOC
  have hS := And.intro HKD.out.b2 (And.intro TAD.out.bA TOD.out.bO)
  refine hK _ _ hS ?_
  clear hK K
  try simp only [Act.put, List.getElem_toArray, List.getElem_cons_zero, List.getElem_cons_succ, List.setIfInBounds_toArray, List.set_cons_zero, List.set_cons_succ]
  refine wpAnyH_oneG (i := 22) (by kernel_rfl) rfl (by rfl) ?_
  intro K hK
  simp only [List.getElem_toArray, List.getElem_cons_succ, List.getElem_cons_zero]
  go_simp
  refine (rsame14_calls rs xS xT wD HRS2 HRT).mono ?_
  rintro e wE ⟨rfl, hbn⟩
  have HKE := Lib.hid (HKD.out.to hbn)
  have TAE := Lib.hid (TAD.out.to hbn)
  have TOE := Lib.hid (TOD.out.to hbn)
  clear hS hbn HKD TAD TOD
  have hS := And.intro HKE.out.b2 (And.intro TAE.out.bA TOE.out.bO)
  refine hK _ _ hS ?_
  clear hK K
  try simp only [Act.put, List.getElem_toArray, List.getElem_cons_zero, List.getElem_cons_succ, List.setIfInBounds_toArray, List.set_cons_zero, List.set_cons_succ]
  refine wpAnyH_take (i := 23) (v := .bool true) rfl (by kernel_rfl) (by kernel_rfl) (by kernel_rfl) (fun _ _ _ h => h) (Or.inl ⟨by rfl, fun W hW => by go_simp⟩) hS ?_
  try simp only [Act.put, List.getElem_toArray, List.getElem_cons_zero, List.getElem_cons_succ, List.setIfInBounds_toArray, List.set_cons_zero, List.set_cons_succ]
  refine wpAnyH_oneG (i := 24) (by kernel_rfl) rfl (by rfl) ?_
  intro K hK
  go_simp
  refine hK _ _ hS ?_
  clear hK K
  try simp only [Act.put, List.getElem_toArray, List.getElem_cons_zero, List.getElem_cons_succ, List.setIfInBounds_toArray, List.set_cons_zero, List.set_cons_succ]
  refine ⟨by kernel_rfl, ?_⟩
  go_wp2_with fail
  go_ret
  exact ⟨rfl, HKE.out.bel⟩


set_option maxRecDepth 100000 in
theorem walks {H : Type} (enc : TypeId × Value → H) : Walks enc Tryz.prog 4 Tryz.f4 := by
  intro W base args ds ps hval hA hwt
  rw [Tryz.params4] at hA hval hwt
  obtain ⟨v0, vs0, d0, ds0, p0, q0, hargs, rfl, rfl, h0, r0⟩ := trodAll_cons hA
  obtain ⟨v1, vs1, d1, ds1, p1, q1, rfl, rfl, rfl, h1, r1⟩ := trodAll_cons r0
  obtain ⟨rfl, rfl, rfl⟩ := trodAll_nil r1
  obtain rfl : args = #[v0, v1] := by cases args; simp_all
  obtain ⟨r, x, rfl, hr⟩ := raft_arg (hval 0 28 v0 rfl rfl) h0 (weightsEach_at (i := 0) hwt rfl rfl)
  obtain ⟨d, rfl, rfl, rfl, w2⟩ := open_int Tryz.underlying3 (hval 1 3 v1 rfl rfl) h1
  simp [Lit.wf, IntKind.min, IntKind.max, IntKind.signed, IntKind.bits] at w2
  exact walk r x d W (Lib.hid hr) (by omega) (by omega)

set_option maxRecDepth 100000 in
theorem lifted (os : Os) (started : os.Started) (H : Type) (enc : TypeId × Value → H) :
    ReturnsInHanded {} Tryz.checked os 4 .any (Rows.raftTicksSpec.pre6 enc Tryz.prog Tryz.f4 Rows.raftTicksRow.domain false) (Rows.raftTicksSpec.post enc Tryz.prog Tryz.f4 false true false false) :=
  frame_lifted (C := Tryz.checked) own started (by kernel_rfl) Tryz.func4
    (ChangeSpec.witness6 (enc := enc) (C := Tryz.checked) false ⟨#[], #[.agg #[.int .i64 0, .slice none 0 0, .int .i64 0, .int .i64 0, .int .i64 0, .int .i64 0, .int .i64 0, .int .i64 0, .slice none 0 0, .string ⟨#[]⟩, .int .i64 0, .int .i64 0, .int .i64 0, .slice none 0 0, .slice none 0 0, .slice none 0 0], .int .i64 0], []⟩ 8 (by kernel_rfl) (by kernel_rfl) (by kernel_rfl) (by kernel_rfl)) laidOut (by kernel_rfl) rfl (by rfl) Tryz.underlying4
    (fun ds h => match ds, h with | [d0, d1], _ => ⟨rfl, rfl, rfl⟩) (walks enc)

theorem over : Rows.raftTicksRow.holds Tryz.pinned (OpenSpec.ofChange Rows.raftTicksSpec) :=
  OpenClaim.holds_of_wide 4 Tryz.f4 rfl rfl rfl rfl rfl rfl rfl ⟨rfl, rfl, rfl, rfl, rfl⟩ rfl rfl rfl rfl rfl (by kernel_rfl) Tryz.func4 (by kernel_rfl)
    (of_decide_eq_true (by kernel_rfl)) (by unfold Func.isWrapper; first | (rw [if_pos (by decide +kernel)]; kernel_rfl) | (rw [if_neg (by decide +kernel)]; exact ⟨rfl, rfl⟩))
    (fun os started H enc _ => lifted os started H enc)

/-- the statement -/
theorem proved : Rows.RaftTicksSaid := over
end Go.Proofs.YtdladjgdhnkkcaaGreat.lawRaftTicks
