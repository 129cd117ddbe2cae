
/-
  RaftHandles: what any node, right or not, becomes and sends.
  No condition.
-/
import Derived.Test.YtdladjgdhnkkcaaGreatZRg10ToRg12
import Derived.Test.YtdladjgdhnkkcaaGreatZRg19
import Derived.BigQuiet
import Derived.Deep.Cut
namespace Go.Proofs.YtdladjgdhnkkcaaGreat.lawRaftHandles
open Go.ChangeShapes Go.WideShapes Go.ChangeAt Go.RowKit Go.Deep
set_option linter.unusedVariables false
set_option linter.unusedSimpArgs false
set_option maxHeartbeats 20000000

/-- the node and the message handed in -/
structure TM (w : World) (r : Nod) (x : NdX) (m : Msg) (A : Option Addr) (cap : Nat) (W : World) : Prop where
  bel : Below w.heap.size w W
  b2 : Blk W w.heap.size 28 (raftL r x).toArray
  bm : Blk W (w.heap.size + 1) 30 #[.int .i64 m.kind, .int .i64 m.src, .int .i64 m.dst, .int .i64 m.term, .int .i64 m.index, .int .i64 m.lterm, .int .i64 m.commit, .bool m.yes, .slice A m.es.length cap, .string m.data]
theorem TM.to {w W W' : World} {r : Nod} {x : NdX} {m : Msg} {A : Option Addr} {cap : Nat} (h : TM w r x m A cap W) (hb : Below W.heap.size W W') : TM w r x m A cap W' := ⟨bel_tr h.bel hb, h.b2.bel hb, h.bm.bel hb⟩

set_option maxRecDepth 100000 in
theorem walk (r : Nod) (x : NdX) (m : Msg) (A : Option Addr) (cap : Nat) (w : World) (h : Hid (RdR w r x)) (hm : Hid (m.es.length ≤ cap ∧ RdE w A m.es)) (hml : m.es.length ≤ 9223372036854775807) :
    Calls Tryz.prog 3 #[raftV r x, msgV m A cap] w fun e w' => e = .returned (.bool true) ∧ Below w.heap.size w w' := by
  obtain ⟨q, hq⟩ : ∃ q, q = Rf.handle r m := ⟨_, rfl⟩
  have ZQ := Lib.hid (show Sz q.1 by rw [hq]; exact Rf.handle_sz h.out.sz m)
  have HTC := Lib.hid (fun (W : World) (hb : Below w.heap.size w W) => handle_calls r x W (Lib.hid (h.out.bel hb)) m A cap (Lib.hid ⟨hm.out.1, hm.out.2.bel hb⟩) hml)
  have HRC := Lib.hid (fun (W : World) (hb : Below w.heap.size w W) => rhandle_calls r x W (Lib.hid (h.out.bel hb)) m A cap (Lib.hid ⟨hm.out.1, hm.out.2.bel hb⟩) hml)
  rw [← hq] at HTC HRC
  clear hq
  have HK1 : Hid (TM w r x m A cap ((w.alloc (.cells #[.int .i64 r.id, .slice x.cA r.conf.length x.cc, .int .i64 r.term, .int .i64 r.vote, .int .i64 r.role, .int .i64 r.leader, .int .i64 r.b, .int .i64 r.bt, .slice x.eA r.es.length x.ec, .string r.snap, .int .i64 r.commit, .int .i64 r.left, .int .i64 r.wait, .slice x.vA r.votes.length x.vc, .slice x.nA r.next.length x.nc, .slice x.mA r.mtch.length x.mc] 28)).alloc (.cells #[.int .i64 m.kind, .int .i64 m.src, .int .i64 m.dst, .int .i64 m.term, .int .i64 m.index, .int .i64 m.lterm, .int .i64 m.commit, .bool m.yes, .slice A m.es.length cap, .string m.data] 30))) := Lib.hid ⟨bel_new (bel_new (Below.refl w.heap.size w) _) _, (Blk.new w _ _).alloc _, Blk.new2 w _ _ _⟩
  go_enter Tryz.func3, Tryz.ntmps3
  go_upto_region 1 with (fail)
  generalize (w.alloc (.cells #[.int .i64 r.id, .slice x.cA r.conf.length x.cc, .int .i64 r.term, .int .i64 r.vote, .int .i64 r.role, .int .i64 r.leader, .int .i64 r.b, .int .i64 r.bt, .slice x.eA r.es.length x.ec, .string r.snap, .int .i64 r.commit, .int .i64 r.left, .int .i64 r.wait, .slice x.vA r.votes.length x.vc, .slice x.nA r.next.length x.nc, .slice x.mA r.mtch.length x.mc] 28)).alloc (.cells #[.int .i64 m.kind, .int .i64 m.src, .int .i64 m.dst, .int .i64 m.term, .int .i64 m.index, .int .i64 m.lterm, .int .i64 m.commit, .bool m.yes, .slice A m.es.length cap, .string m.data] 30) = w1 at *
  go_wp2_with fail
  refine (raft_awake w1).mono ?_
  rintro e w2 ⟨rfl, hb2⟩
  have HK2 := Lib.hid (HK1.out.to hb2)
  clear hb2 HK1
  go_upto_region 3 with (fail)
  -- what the program answers
  go_wp2_with (first | (refine wpList_loadB rfl 28 (.tmp 2) rfl w.heap.size rfl HK2.out.b2 Tryz.underlying28 infoR ?_) | (refine wpList_loadB rfl 30 (.tmp 3) rfl (w.heap.size + 1) rfl HK2.out.bm Tryz.underlying30 infoMs ?_))
  refine (HTC.out w2 HK2.out.bel).mono ?_
  rintro e w3 ⟨⟨xA, colA, LA, rfl, hMA, hRA⟩, hb3⟩
  have HMA := Lib.hid hMA
  have HK3 := Lib.hid (HK2.out.to hb3)
  have HRA := Lib.hid hRA
  have HLA := Lib.hid hRA.rdM.2
  have HXA := Lib.hid (boxed w3 28 #[.int .i64 0, .slice none 0 0, .int .i64 0, .int .i64 0, .int .i64 0, .int .i64 0, .int .i64 0, .int .i64 0, .slice none 0 0, .string ⟨#[]⟩, .int .i64 0, .int .i64 0, .int .i64 0, .slice none 0 0, .slice none 0 0, .slice none 0 0] (raftL q.1 xA).toArray)
  have HZA := Lib.hid (Blk.new w3 28 #[.int .i64 0, .slice none 0 0, .int .i64 0, .int .i64 0, .int .i64 0, .int .i64 0, .int .i64 0, .int .i64 0, .slice none 0 0, .string ⟨#[]⟩, .int .i64 0, .int .i64 0, .int .i64 0, .slice none 0 0, .slice none 0 0, .slice none 0 0])
  clear hMA hRA hb3 HK2 HTC
  go_upto_region 4 with (refine wpList_storeB rfl 28 (.tmp 5) (.tmp 14) rfl w3.heap.size (raftL q.1 xA).toArray rfl rfl HZA.out infoR rfl (raftL_one _ _) ?_)
  have HK4 := Lib.hid (HK3.out.to HXA.out.1)
  have TA4 := Lib.hid (show T2 q.1 w3.heap.size xA LA _ from ⟨HXA.out.2, (HRA.out.rd_of ZQ.out).bel HXA.out.1, HRA.out.rdM.1.bel HXA.out.1⟩)
  generalize (w3.alloc (.cells #[.int .i64 0, .slice none 0 0, .int .i64 0, .int .i64 0, .int .i64 0, .int .i64 0, .int .i64 0, .int .i64 0, .slice none 0 0, .string ⟨#[]⟩, .int .i64 0, .int .i64 0, .int .i64 0, .slice none 0 0, .slice none 0 0, .slice none 0 0] 28)).setRow w3.heap.size (raftL q.1 xA).toArray = w4 at *
  generalize w3.heap.size = gA at *
  clear HXA HZA HK3 HRA
  -- what the reference answers
  go_wp2_with (first | (refine wpList_loadB rfl 28 (.tmp 2) rfl w.heap.size rfl HK4.out.b2 Tryz.underlying28 infoR ?_) | (refine wpList_loadB rfl 30 (.tmp 3) rfl (w.heap.size + 1) rfl HK4.out.bm Tryz.underlying30 infoMs ?_))
  refine (HRC.out w4 HK4.out.bel).mono ?_
  rintro e w5 ⟨⟨xO, colO, LO, rfl, hMO, hRO⟩, hb5⟩
  have HMO := Lib.hid (HMA.out.trans hMO.symm)
  have HK5 := Lib.hid (HK4.out.to hb5)
  have TA5 := Lib.hid (TA4.out.to hb5)
  have HRO := Lib.hid hRO
  have HXO := Lib.hid (boxed w5 36 #[.int .i64 0, .slice none 0 0, .int .i64 0, .int .i64 0, .int .i64 0, .int .i64 0, .int .i64 0, .int .i64 0, .slice none 0 0, .string ⟨#[]⟩, .int .i64 0, .int .i64 0, .int .i64 0, .slice none 0 0, .slice none 0 0, .slice none 0 0, .slice none 0 0] (nodeC q.1 xO LO.length))
  have HZO := Lib.hid (Blk.new w5 36 #[.int .i64 0, .slice none 0 0, .int .i64 0, .int .i64 0, .int .i64 0, .int .i64 0, .int .i64 0, .int .i64 0, .slice none 0 0, .string ⟨#[]⟩, .int .i64 0, .int .i64 0, .int .i64 0, .slice none 0 0, .slice none 0 0, .slice none 0 0, .slice none 0 0])
  clear hMO hRO hb5 HK4 TA4 HRC HMA
  go_upto_region 5 with (refine wpList_storeB rfl 36 (.tmp 7) (.tmp 18) rfl w5.heap.size (nodeC q.1 xO LO.length) rfl rfl HZO.out infoO rfl (nodeC_one _ _ _) ?_)
  have HK6 := Lib.hid (HK5.out.to HXO.out.1)
  have TA6 := Lib.hid (TA5.out.to HXO.out.1)
  have TO6 := Lib.hid (show T3 q.1 w5.heap.size xO LO _ from ⟨HXO.out.2, (HRO.out.rd_of ZQ.out).bel HXO.out.1, HRO.out.rdM.1.bel HXO.out.1⟩)
  generalize (w5.alloc (.cells #[.int .i64 0, .slice none 0 0, .int .i64 0, .int .i64 0, .int .i64 0, .int .i64 0, .int .i64 0, .int .i64 0, .slice none 0 0, .string ⟨#[]⟩, .int .i64 0, .int .i64 0, .int .i64 0, .slice none 0 0, .slice none 0 0, .slice none 0 0, .slice none 0 0] 36)).setRow w5.heap.size (nodeC q.1 xO LO.length) = w6 at *
  generalize w5.heap.size = gO at *
  clear HXO HZO HK5 TA5 HRO
  go_wp2_with (first
    | (refine wpList_loadB rfl 28 (.tmp 5) rfl gA rfl TA6.out.bA Tryz.underlying28 infoR ?_)
    | (refine wpList_loadP rfl 28 (.tmp 20) rfl gO rfl TO6.out.bO (raftL q.1 xO) rfl Tryz.underlying28 infoR ?_))
  refine (rsame14_calls q.1 xA xO w6 (Lib.hid TA6.out.rA) (Lib.hid TO6.out.rO)).mono ?_
  rintro e w7 ⟨rfl, hbn⟩
  have HK7 := Lib.hid (HK6.out.to hbn)
  have TA7 := Lib.hid (TA6.out.to hbn)
  have TO7 := Lib.hid (TO6.out.to hbn)
  clear hbn HK6 TA6 TO6
  have c16 : w7.cell? ⟨gO, 16, none⟩ = some (.slice xO.oA LO.length xO.oc) := TO7.out.bO.cells 16
  go_wp2_with fail
  refine (rmessages_calls xA.oA xO.oA xA.oc xO.oc LA LO w7 (Lib.hid TA7.out.mA) (Lib.hid TO7.out.mO) HMO HLA.out).mono ?_
  rintro e w8 ⟨rfl, hbn⟩
  have HK8 := Lib.hid (HK7.out.to hbn)
  clear hbn HK7 TA7 TO7 c16
  go_wp2_with fail
  go_ret
  exact ⟨rfl, HK8.out.bel⟩


set_option maxRecDepth 100000 in
theorem walks {H : Type} (enc : TypeId × Value → H) : Walks enc Tryz.prog 3 Tryz.f3 := by
  intro W base args ds ps hval hA hwt
  rw [Tryz.params3] at hA hval hwt
  obtain ⟨v0, vs0, d0, ds0, p0, q0, hargs, rfl, rfl, h0, r0⟩ := trodAll_cons hA
  obtain ⟨v1, vs1, d1, ds1, p1, q1, rfl, rfl, rfl, h1, r1⟩ := trodAll_cons r0
  obtain ⟨rfl, rfl, rfl⟩ := trodAll_nil r1
  obtain rfl : args = #[v0, v1] := by cases args; simp_all
  obtain ⟨r, x, rfl, hr⟩ := raft_arg (hval 0 28 v0 rfl rfl) h0 (weightsEach_at (i := 0) hwt rfl rfl)
  obtain ⟨m, A, cap, rfl, e1, e2, e3⟩ := msg_arg (hval 1 30 v1 rfl rfl) h1 (weightsEach_at (i := 1) hwt rfl rfl)
  exact walk r x m A cap W (Lib.hid hr) (Lib.hid ⟨e1, e3⟩) e2

set_option maxRecDepth 100000 in
theorem lifted (os : Os) (started : os.Started) (H : Type) (enc : TypeId × Value → H) :
    ReturnsInHanded {} Tryz.checked os 3 .any (Rows.raftHandlesSpec.pre6 enc Tryz.prog Tryz.f3 Rows.raftHandlesRow.domain false) (Rows.raftHandlesSpec.post enc Tryz.prog Tryz.f3 false true false false) :=
  frame_lifted (C := Tryz.checked) own started (by kernel_rfl) Tryz.func3
    (ChangeSpec.witness6 (enc := enc) (C := Tryz.checked) false ⟨#[], #[.agg #[.int .i64 0, .slice none 0 0, .int .i64 0, .int .i64 0, .int .i64 0, .int .i64 0, .int .i64 0, .int .i64 0, .slice none 0 0, .string ⟨#[]⟩, .int .i64 0, .int .i64 0, .int .i64 0, .slice none 0 0, .slice none 0 0, .slice none 0 0], .agg #[.int .i64 0, .int .i64 0, .int .i64 0, .int .i64 0, .int .i64 0, .int .i64 0, .int .i64 0, .bool false, .slice none 0 0, .string ⟨#[]⟩]], []⟩ 8 (by kernel_rfl) (by kernel_rfl) (by kernel_rfl) (by kernel_rfl)) laidOut (by kernel_rfl) rfl (by rfl) Tryz.underlying4
    (fun ds h => match ds, h with | [d0, d1], _ => ⟨rfl, rfl, rfl⟩) (walks enc)

theorem over : Rows.raftHandlesRow.holds Tryz.pinned (OpenSpec.ofChange Rows.raftHandlesSpec) :=
  OpenClaim.holds_of_wide 3 Tryz.f3 rfl rfl rfl rfl rfl rfl rfl ⟨rfl, rfl, rfl, rfl, rfl⟩ rfl rfl rfl rfl rfl (by kernel_rfl) Tryz.func3 (by kernel_rfl)
    (of_decide_eq_true (by kernel_rfl)) (by unfold Func.isWrapper; first | (rw [if_pos (by decide +kernel)]; kernel_rfl) | (rw [if_neg (by decide +kernel)]; exact ⟨rfl, rfl⟩))
    (fun os started H enc _ => lifted os started H enc)

/-- the statement -/
theorem proved : Rows.RaftHandlesSaid := over
end Go.Proofs.YtdladjgdhnkkcaaGreat.lawRaftHandles
