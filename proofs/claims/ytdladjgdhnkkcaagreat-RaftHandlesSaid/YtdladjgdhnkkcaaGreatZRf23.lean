
/-
  Contract: a message comes.
  Conditions: the node and the message can be read.
-/
import Derived.Test.YtdladjgdhnkkcaaGreatZRf22
import Derived.Test.YtdladjgdhnkkcaaGreatZRf15ToRf13
import Derived.Test.YtdladjgdhnkkcaaGreatZBig
import Derived.OrdersHeld
namespace Go.Proofs.YtdladjgdhnkkcaaGreat
open Go.RowKit
set_option linter.unusedVariables false
set_option linter.unusedSimpArgs false
set_option maxHeartbeats 20000000

namespace Rf
theorem len_le : ∀ {vs conf : List Int}, vs.Nodup → (∀ v ∈ vs, v ∈ conf) → vs.length ≤ conf.length
  | [], conf, _, _ => Nat.zero_le _
  | v :: vs, conf, h, k => by
    rw [List.nodup_cons] at h
    have h1 := len_le (vs := vs) (conf := conf.erase v) h.2 (fun u hu => (List.mem_erase_of_ne (fun e => h.1 (by rw [← e]; exact hu))).2 (k u (List.mem_cons_of_mem _ hu)))
    have h2 := List.length_erase_of_mem (k v (List.mem_cons_self ..))
    have h3 : 0 < conf.length := List.length_pos_of_mem (k v (List.mem_cons_self ..))
    simp only [List.length_cons]
    omega
theorem vok_nodup {conf : List Int} : ∀ {seen vs : List Int}, vok conf seen vs = true → vs.Nodup ∧ ∀ v ∈ vs, v ∈ conf ∧ v ∉ seen
  | seen, [], _ => ⟨List.nodup_nil, fun v hv => by cases hv⟩
  | seen, v :: vs, h => by
    unfold vok at h
    simp only [Bool.and_eq_true, decide_eq_true_eq, Bool.not_eq_true', decide_eq_false_iff_not] at h
    obtain ⟨⟨h1, h2⟩, h3⟩ := h
    obtain ⟨h4, h5⟩ := vok_nodup h3
    refine ⟨List.nodup_cons.2 ⟨fun hv => (h5 v hv).2 (by simp), h4⟩, fun u hu => ?_⟩
    rcases List.mem_cons.1 hu with rfl | hu
    · exact ⟨h1, h2⟩
    · exact ⟨(h5 u hu).1, fun hs => (h5 u hu).2 (by simp [hs])⟩
theorem votes_le {r : Nod} (h : Base r) (k : Role r) : r.votes.length ≤ 7 := by
  have hc := (Qm.chk_asc h.conf).2.2
  rcases k with ⟨_, e, _⟩ | ⟨_, c, _⟩ | ⟨_, e, _⟩
  · rw [e]; simp
  · obtain ⟨h1, h2⟩ := vok_nodup c.ok
    have := len_le h1 (fun v hv => (h2 v hv).1)
    omega
  · rw [e]; simp
theorem es_le {r : Nod} (h : Base r) : r.es.length ≤ 4096 := by have := Tr.chk_rim h.trail; exact this.2.2.2.2.2.1
end Rf
theorem Blk.new3 (w : World) (o o2 : Obj) (t : TypeId) (cs : Array Value) : Blk (((w.alloc o).alloc o2).alloc (.cells cs t)) (w.heap.size + 1 + 1) t cs := by
  have := Blk.new2 (w.alloc o) o2 t cs
  rwa [size_alloc] at this
theorem infoR : (Tryz.prog.info? 28).map (·.size) = some 16 := by kernel_rfl
theorem infoMs : (Tryz.prog.info? 30).map (·.size) = some 10 := by kernel_rfl
/-- a node's cells, one by one -/
abbrev raftL (r : Nod) (x : NdX) : List Value := [.int .i64 r.id, .slice x.cA r.conf.length x.cc, .int .i64 r.term, .int .i64 r.vote, .int .i64 r.role, .int .i64 r.leader, .int .i64 r.b, .int .i64 r.bt, .slice x.eA r.es.length x.ec, .string r.snap, .int .i64 r.commit, .int .i64 r.left, .int .i64 r.wait, .slice x.vA r.votes.length x.vc, .slice x.nA r.next.length x.nc, .slice x.mA r.mtch.length x.mc]
theorem raftL_one (r : Nod) (x : NdX) : (raftL r x).toArray.all (·.oneCell') = true := all_oneCell_toArray (fun v hv => by
  simp only [raftL, List.mem_cons, List.not_mem_nil, or_false] at hv
  rcases hv with rfl | rfl | rfl | rfl | rfl | rfl | rfl | rfl | rfl | rfl | rfl | rfl | rfl | rfl | rfl | rfl <;> rfl)
theorem wp_region_heldD {P : Program} {ops : Array Oper} {Q : Exit → Act → World → Prop} {S : World → Prop} {id : Nat} {a : Act} {w : World} (hm : P.follows .mixedOrders = true)
    (h : wpAnyH P .any ops Q S ops.size (Array.replicate ops.size false) a w.drew) : (Code.region id ops true).wp P Q a w := wp_region_held hm h
theorem wpAnyH_one {P : Program} {ops : Array Oper} {Q : Exit → Act → World → Prop} {md : Region.Mode} {S : World → Prop} {i : Nat} {o : Oper} {fuel : Nat} {listed : Array Bool} {a : Act} {w : World} (hr : Region.ready md ops listed = [i]) (ho : ops[i]? = some o) (hg : o.guard = none)
    (h : ∀ K : Act → World → Prop, (∀ a' w', S w' → wpAnyH P md ops Q S fuel (listed.setIfInBounds i true) a' w' → K a' w') → o.wp P a w K Q) : wpAnyH P md ops Q S (fuel + 1) listed a w := by
  refine wpAnyH_all hr (by simp) fun j hj => ?_
  obtain rfl : j = i := by simpa using hj
  refine wpOp_step ho fun K hK => ?_
  have hw : Region.wanted o (yielded ops a.tmps) = true := by simp [Region.wanted, hg]
  rw [if_pos hw]
  exact h K fun a' w' hS hW => hK a' w' ⟨hS, hW⟩
theorem Rest.row1 {base : Nat} {col : Nat → Nat} {r : Nod} {x : NdX} {L : List MsgV} {w : World} (h : Rest base col r x L w) {g : Nat} (hg : col g = 1) (cs : Array Value) : Rest base col r x L (w.setRow g cs) :=
  h.only1 ⟨by rw [setRow_size]; exact Nat.le_refl _, fun b _ hc => setRow_other w g b cs (fun e => hc (by rw [e]; exact hg))⟩
theorem bel_bel {w1 : World} {B : Nat} {w W W' : World} (h : Below B w W) (k : Below w1.heap.size W W') (hb : B ≤ w1.heap.size) : Below B w W' := h.trans (k.mono hb)

set_option maxRecDepth 100000 in
theorem handle_calls (r : Nod) (x : NdX) (w : World) (h : Hid (RdR w r x)) (m : Msg) (A : Option Addr) (cap : Nat) (hm : Hid (m.es.length ≤ cap ∧ RdE w A m.es)) (hml : m.es.length ≤ 9223372036854775807) :
    Calls Tryz.prog 6 #[raftV r x, msgV m A cap] w (Ans w (Rf.handle r m).1 (Rf.handle r m).2) := by
  obtain ⟨q, hq⟩ : ∃ q, q = Rf.handle r m := ⟨_, rfl⟩
  rw [← hq]
  have HQ := Lib.hid hq
  unfold Rf.handle at HQ
  clear hq
  have HST := Lib.hid (fun (W : World) (hb : Below w.heap.size w W) => start_calls r x W (Lib.hid (h.out.bel hb)))
  have HCK := Lib.hid (fun (W : World) (hb : Below w.heap.size w W) => rfcheck_calls r x W (Lib.hid (h.out.bel hb)))
  have HCI := Lib.hid (Rf.chk_iff r)
  have HTI := Lib.hid (Rf.takes_iff r m)
  obtain ⟨c1, hc1⟩ : ∃ c1, c1 = Rf.chk r := ⟨_, rfl⟩
  obtain ⟨c2, hc2⟩ : ∃ c2, c2 = Rf.takes r m := ⟨_, rfl⟩
  have HTC := Lib.hid (fun (base g : Nat) (col : Nat → Nat) (x2 : NdX) (W : World) (hb : Below w.heap.size w W) (H : Hid (Nd 53 base g col r x2 [] W)) => takes_calls H h.out.conf2 m A cap (Lib.hid (hm.out.2.bel hb)) hml)
  rw [← hc1] at HCK HQ HCI
  rw [← hc2] at HQ HTI HTC
  have HME := Lib.hid (show m.es.length ≤ cap ∧ (0 < m.es.length → ∀ b off sp, A = some ⟨b, off, sp⟩ → b < w.heap.size) from ⟨hm.out.1, fun h0 b off sp e => by
    obtain ⟨b', off', e', hlt, _⟩ := hm.out.2 0 h0
    rw [e] at e'
    injection e' with e'
    injection e' with e1 _ _
    omega⟩)
  clear hc1 hc2
  obtain ⟨id, conf, term, vote, role, leader, b, bt, es, snap, commit, left, wait, votes, next, mtch⟩ := r
  obtain ⟨mk, ms, md, mt, mi, ml, mc, my, me, mdt⟩ := m
  obtain ⟨cA, cc, eA, ec, vA, vc, nA, nc, mA, mc0, oA, oc⟩ := x
  have HB1 := Lib.hid (bel_new (bel_new (bel_new (Below.refl w.heap.size w) (.cells #[.int .i64 id, .slice cA conf.length cc, .int .i64 term, .int .i64 vote, .int .i64 role, .int .i64 leader, .int .i64 b, .int .i64 bt, .slice eA es.length ec, .string snap, .int .i64 commit, .int .i64 left, .int .i64 wait, .slice vA votes.length vc, .slice nA next.length nc, .slice mA mtch.length mc0] 28)) (.cells #[.int .i64 mk, .int .i64 ms, .int .i64 md, .int .i64 mt, .int .i64 mi, .int .i64 ml, .int .i64 mc, .bool my, .slice A me.length cap, .string mdt] 30)) (.cells #[.int .i64 0, .slice none 0 0, .int .i64 0, .int .i64 0, .int .i64 0, .int .i64 0, .int .i64 0, .int .i64 0, .slice none 0 0, .string ⟨#[]⟩, .int .i64 0, .int .i64 0, .int .i64 0, .slice none 0 0, .slice none 0 0, .slice none 0 0] 28))
  have HR1 := Lib.hid (((Blk.new w 28 #[.int .i64 id, .slice cA conf.length cc, .int .i64 term, .int .i64 vote, .int .i64 role, .int .i64 leader, .int .i64 b, .int .i64 bt, .slice eA es.length ec, .string snap, .int .i64 commit, .int .i64 left, .int .i64 wait, .slice vA votes.length vc, .slice nA next.length nc, .slice mA mtch.length mc0]).alloc (.cells #[.int .i64 mk, .int .i64 ms, .int .i64 md, .int .i64 mt, .int .i64 mi, .int .i64 ml, .int .i64 mc, .bool my, .slice A me.length cap, .string mdt] 30)).alloc (.cells #[.int .i64 0, .slice none 0 0, .int .i64 0, .int .i64 0, .int .i64 0, .int .i64 0, .int .i64 0, .int .i64 0, .slice none 0 0, .string ⟨#[]⟩, .int .i64 0, .int .i64 0, .int .i64 0, .slice none 0 0, .slice none 0 0, .slice none 0 0] 28))
  have HM1 := Lib.hid ((Blk.new2 w (.cells #[.int .i64 id, .slice cA conf.length cc, .int .i64 term, .int .i64 vote, .int .i64 role, .int .i64 leader, .int .i64 b, .int .i64 bt, .slice eA es.length ec, .string snap, .int .i64 commit, .int .i64 left, .int .i64 wait, .slice vA votes.length vc, .slice nA next.length nc, .slice mA mtch.length mc0] 28) 30 #[.int .i64 mk, .int .i64 ms, .int .i64 md, .int .i64 mt, .int .i64 mi, .int .i64 ml, .int .i64 mc, .bool my, .slice A me.length cap, .string mdt]).alloc (.cells #[.int .i64 0, .slice none 0 0, .int .i64 0, .int .i64 0, .int .i64 0, .int .i64 0, .int .i64 0, .int .i64 0, .slice none 0 0, .string ⟨#[]⟩, .int .i64 0, .int .i64 0, .int .i64 0, .slice none 0 0, .slice none 0 0, .slice none 0 0] 28))
  have HZ1 := Lib.hid (Blk.new3 w (.cells #[.int .i64 id, .slice cA conf.length cc, .int .i64 term, .int .i64 vote, .int .i64 role, .int .i64 leader, .int .i64 b, .int .i64 bt, .slice eA es.length ec, .string snap, .int .i64 commit, .int .i64 left, .int .i64 wait, .slice vA votes.length vc, .slice nA next.length nc, .slice mA mtch.length mc0] 28) (.cells #[.int .i64 mk, .int .i64 ms, .int .i64 md, .int .i64 mt, .int .i64 mi, .int .i64 ml, .int .i64 mc, .bool my, .slice A me.length cap, .string mdt] 30) 28 #[.int .i64 0, .slice none 0 0, .int .i64 0, .int .i64 0, .int .i64 0, .int .i64 0, .int .i64 0, .int .i64 0, .slice none 0 0, .string ⟨#[]⟩, .int .i64 0, .int .i64 0, .int .i64 0, .slice none 0 0, .slice none 0 0, .slice none 0 0])
  have hs1 : (((w.alloc (.cells #[.int .i64 id, .slice cA conf.length cc, .int .i64 term, .int .i64 vote, .int .i64 role, .int .i64 leader, .int .i64 b, .int .i64 bt, .slice eA es.length ec, .string snap, .int .i64 commit, .int .i64 left, .int .i64 wait, .slice vA votes.length vc, .slice nA next.length nc, .slice mA mtch.length mc0] 28)).alloc (.cells #[.int .i64 mk, .int .i64 ms, .int .i64 md, .int .i64 mt, .int .i64 mi, .int .i64 ml, .int .i64 mc, .bool my, .slice A me.length cap, .string mdt] 30)).alloc (.cells #[.int .i64 0, .slice none 0 0, .int .i64 0, .int .i64 0, .int .i64 0, .int .i64 0, .int .i64 0, .int .i64 0, .slice none 0 0, .string ⟨#[]⟩, .int .i64 0, .int .i64 0, .int .i64 0, .slice none 0 0, .slice none 0 0, .slice none 0 0] 28)).heap.size = w.heap.size + 3 := by rw [size_alloc, size_alloc, size_alloc]
  have HS1 := Lib.hid hs1
  clear hs1
  simp only at HST HCK HCI HTI HTC HQ
  go_enter Tryz.func6, Tryz.ntmps6
  go_wp2_with (refine wpList_loadB rfl 28 (.tmp 2) rfl w.heap.size rfl HR1.out Tryz.underlying28 infoR ?_)
  generalize ((w.alloc (.cells #[.int .i64 id, .slice cA conf.length cc, .int .i64 term, .int .i64 vote, .int .i64 role, .int .i64 leader, .int .i64 b, .int .i64 bt, .slice eA es.length ec, .string snap, .int .i64 commit, .int .i64 left, .int .i64 wait, .slice vA votes.length vc, .slice nA next.length nc, .slice mA mtch.length mc0] 28)).alloc (.cells #[.int .i64 mk, .int .i64 ms, .int .i64 md, .int .i64 mt, .int .i64 mi, .int .i64 ml, .int .i64 mc, .bool my, .slice A me.length cap, .string mdt] 30)).alloc (.cells #[.int .i64 0, .slice none 0 0, .int .i64 0, .int .i64 0, .int .i64 0, .int .i64 0, .int .i64 0, .int .i64 0, .slice none 0 0, .string ⟨#[]⟩, .int .i64 0, .int .i64 0, .int .i64 0, .slice none 0 0, .slice none 0 0, .slice none 0 0] 28) = w1 at *
  have hlt3 : w.heap.size + 3 ≤ w1.heap.size := by rw [HS1.out]; exact Nat.le_refl _
  refine (HST.out w1 HB1.out).mono ?_
  rintro e w2 ⟨⟨g, x2, col, rfl, hN2⟩, hb2⟩
  have HN2 := Lib.hid hN2
  have hge : w1.heap.size ≤ g := hN2.ge
  have hgne0 : w.heap.size ≠ g := by omega
  have hgne1 : w.heap.size + 1 ≠ g := by omega
  have hgne2 : w.heap.size + 1 + 1 ≠ g := by omega
  have hzl : Hid (w.heap.size + 1 + 1 < w1.heap.size) := Lib.hid (by omega)
  have hz2 : Hid (w.heap.size ≤ w.heap.size + 1 + 1) := Lib.hid (by omega)
  have hgne3 : g ≠ w.heap.size + 1 + 1 := by omega
  have HB2 := Lib.hid (bel_tr HB1.out hb2)
  have HR2 := Lib.hid (HR1.out.bel hb2)
  have HM2 := Lib.hid (HM1.out.bel hb2)
  have HZ2 := Lib.hid (HZ1.out.bel hb2)
  clear hN2 hb2 HB1 HR1 HM1 HZ1 HST
  go_wp2_with (refine wpList_loadB rfl 28 (.tmp 2) rfl w.heap.size rfl HR2.out Tryz.underlying28 infoR ?_)
  refine (HCK.out w2 HB2.out).mono ?_
  rintro e w3 ⟨rfl, hb3⟩
  have HN3 := Lib.hid (HN2.out.bel hb3)
  have HB3 := Lib.hid (bel_tr HB2.out hb3)
  have HM3 := Lib.hid (HM2.out.bel hb3)
  have HZ3 := Lib.hid (HZ2.out.bel hb3)
  clear hb3 HB2 HR2 HM2 HZ2 HN2 HCK
  cases c1 with
  | false =>
    have HQ := Lib.hid (show q = (⟨id, conf, term, vote, role, leader, b, bt, es, snap, commit, left, wait, votes, next, mtch⟩, []) from by rw [HQ.out]; rfl)
    go_wp2_with (first | (refine wpList_loadP rfl 28 (.tmp 20) rfl g rfl HN3.out.blk (raftL ⟨id, conf, term, vote, role, leader, b, bt, es, snap, commit, left, wait, votes, next, mtch⟩ x2) rfl Tryz.underlying28 infoR ?_) | (refine wpList_storeB rfl 28 (.tmp 4) (.tmp 21) rfl (w.heap.size + 1 + 1) (raftL ⟨id, conf, term, vote, role, leader, b, bt, es, snap, commit, left, wait, votes, next, mtch⟩ x2).toArray rfl rfl HZ3.out infoR rfl (raftL_one _ _) ?_))
    have hld := run_loadVarB (P := Tryz.prog) (HZ3.out.rowSame (raftL ⟨id, conf, term, vote, role, leader, b, bt, es, snap, commit, left, wait, votes, next, mtch⟩ x2).toArray) 28 Tryz.underlying28 infoR
    have HRow := Lib.hid (Rest.row1 (HN3.out.rest.out0.lowCol) (lowCol_lt hzl.out) (raftL ⟨id, conf, term, vote, role, leader, b, bt, es, snap, commit, left, wait, votes, next, mtch⟩ x2).toArray)
    have HBR2 := Lib.hid (bel_row HB3.out hz2.out (raftL ⟨id, conf, term, vote, role, leader, b, bt, es, snap, commit, left, wait, votes, next, mtch⟩ x2).toArray)
    generalize w3.setRow (w.heap.size + 1 + 1) (raftL ⟨id, conf, term, vote, role, leader, b, bt, es, snap, commit, left, wait, votes, next, mtch⟩ x2).toArray = WG at *
    refine bodyPost_ret (v := .tuple #[raftV ⟨id, conf, term, vote, role, leader, b, bt, es, snap, commit, left, wait, votes, next, mtch⟩ x2, .slice none ([] : List MsgV).length 0]) (by simp [results, Tryz.results6, asAddr, hld]) rfl ?_
    rw [HQ.out]
    exact ⟨⟨{ x2 with oA := none, oc := 0 }, lowCol w1.heap.size col, ([] : List MsgV), rfl, rfl, HRow.out.low (by omega)⟩, HBR2.out⟩
  | true =>
    have kM : ∀ i, w3.cell? ⟨w.heap.size + 1, i, none⟩ = (#[.int .i64 mk, .int .i64 ms, .int .i64 md, .int .i64 mt, .int .i64 mi, .int .i64 ml, .int .i64 mc, .bool my, .slice A me.length cap, .string mdt] : Array Value)[i]? := HM3.out.cells
    go_wp2_with fail
    refine (HTC.out _ _ _ _ w3 HB3.out HN3).mono ?_
    rintro e w4 ⟨rfl, hb4⟩
    have HN4 := Lib.hid (HN3.out.bel hb4)
    have HB4 := Lib.hid (bel_tr HB3.out hb4)
    have HM4 := Lib.hid (HM3.out.bel hb4)
    have HZ4 := Lib.hid (HZ3.out.bel hb4)
    clear hb4 HB3 HM3 HZ3 HN3 kM HTC
    cases c2 with
    | false =>
      have HQ := Lib.hid (show q = (⟨id, conf, term, vote, role, leader, b, bt, es, snap, commit, left, wait, votes, next, mtch⟩, []) from by rw [HQ.out]; rfl)
      go_wp2_with (first | (refine wpList_loadP rfl 28 (.tmp 20) rfl g rfl HN4.out.blk (raftL ⟨id, conf, term, vote, role, leader, b, bt, es, snap, commit, left, wait, votes, next, mtch⟩ x2) rfl Tryz.underlying28 infoR ?_) | (refine wpList_storeB rfl 28 (.tmp 4) (.tmp 21) rfl (w.heap.size + 1 + 1) (raftL ⟨id, conf, term, vote, role, leader, b, bt, es, snap, commit, left, wait, votes, next, mtch⟩ x2).toArray rfl rfl HZ4.out infoR rfl (raftL_one _ _) ?_))
      have hld := run_loadVarB (P := Tryz.prog) (HZ4.out.rowSame (raftL ⟨id, conf, term, vote, role, leader, b, bt, es, snap, commit, left, wait, votes, next, mtch⟩ x2).toArray) 28 Tryz.underlying28 infoR
      have HRow := Lib.hid (Rest.row1 (HN4.out.rest.out0.lowCol) (lowCol_lt hzl.out) (raftL ⟨id, conf, term, vote, role, leader, b, bt, es, snap, commit, left, wait, votes, next, mtch⟩ x2).toArray)
      have HBR2 := Lib.hid (bel_row HB4.out hz2.out (raftL ⟨id, conf, term, vote, role, leader, b, bt, es, snap, commit, left, wait, votes, next, mtch⟩ x2).toArray)
      generalize w4.setRow (w.heap.size + 1 + 1) (raftL ⟨id, conf, term, vote, role, leader, b, bt, es, snap, commit, left, wait, votes, next, mtch⟩ x2).toArray = WG at *
      refine bodyPost_ret (v := .tuple #[raftV ⟨id, conf, term, vote, role, leader, b, bt, es, snap, commit, left, wait, votes, next, mtch⟩ x2, .slice none ([] : List MsgV).length 0]) (by simp [results, Tryz.results6, asAddr, hld]) rfl ?_
      rw [HQ.out]
      exact ⟨⟨{ x2 with oA := none, oc := 0 }, lowCol w1.heap.size col, ([] : List MsgV), rfl, rfl, HRow.out.low (by omega)⟩, HBR2.out⟩
    | true =>
      have HQ := Lib.hid (show q = if mt < term then (⟨id, conf, term, vote, role, leader, b, bt, es, snap, commit, left, wait, votes, next, mtch⟩, Rf.late ⟨id, conf, term, vote, role, leader, b, bt, es, snap, commit, left, wait, votes, next, mtch⟩ ⟨mk, ms, md, mt, mi, ml, mc, my, me, mdt⟩) else Rf.same (Rf.newer ⟨id, conf, term, vote, role, leader, b, bt, es, snap, commit, left, wait, votes, next, mtch⟩ ⟨mk, ms, md, mt, mi, ml, mc, my, me, mdt⟩) ⟨mk, ms, md, mt, mi, ml, mc, my, me, mdt⟩ from by rw [HQ.out]; rfl)
      obtain ⟨hB, hRL⟩ := HCI.out.1 (by first | rfl | trivial)
      have HBR := Lib.hid hB
      have HRL := Lib.hid hRL
      have HTK := Lib.hid (HTI.out.1 (by first | rfl | trivial))
      have HMB : Hid (me.length ≤ cap ∧ RdB w1.heap.size w4 A me) := Lib.hid ⟨HME.out.1, hm.out.2.bel HB4.out, fun h0 b off sp e => by have := HME.out.2 h0 b off sp e; omega⟩
      clear hB hRL HCI HTI HME
      have kN : w4.cell? ⟨g, 2, none⟩ = some (.int .i64 term) := HN4.out.blk.cells 2
      have kM : w4.cell? ⟨w.heap.size + 1, 3, none⟩ = some (.int .i64 mt) := HM4.out.cells 3
      go_wp2_with fail
      by_cases hgt : term < mt
      · have hgt1 : decide (term < mt) = true := decide_eq_true hgt
        have hn1 : ¬ mt < term := by omega
        have hn2 : decide (mt < mt) = false := decide_eq_false (by omega)
        have HQS := Lib.hid (show q = Rf.same ⟨id, conf, mt, 0, 0, 0, b, bt, es, snap, commit, left, wait, [], [], []⟩ ⟨mk, ms, md, mt, mi, ml, mc, my, me, mdt⟩ from by rw [HQ.out, if_neg hn1]; unfold Rf.newer; rw [if_pos hgt])
        have hng := Rf.newer_go HBR.out HRL.out HTK.out
        have hnt := HTK.out.newer
        unfold Rf.newer at hng hnt
        simp only [if_pos hgt] at hng hnt
        have HBR := Lib.hid hng.1.base
        have HRL := Lib.hid hng.2
        have HTK := Lib.hid hnt
        have HLD : Hid ((0 : Int) = 2 → Rf.Lead ⟨id, conf, mt, 0, 0, 0, b, bt, es, snap, commit, left, wait, [], [], []⟩) := Lib.hid (fun e => by cases e)
        clear hng hnt hn1 HQ
        go_quiet (fail)
        have N4 := Lib.hid (HN4.out.bel (bel_drewN (Below.refl w4.heap.size w4) nq))
        have HB4' := Lib.hid (bel_drewN HB4.out nq)
        have HM4' := Lib.hid (HM4.out.drewN nq)
        have HZ4' := Lib.hid (HZ4.out.drewN nq)
        have HMB' : Hid (me.length ≤ cap ∧ RdB w1.heap.size (w4.drewN nq) A me) := Lib.hid ⟨HMB.out.1, HMB.out.2.low (bel_drewN (Below.refl _ _) _)⟩
        have kN' : ∀ i, (w4.drewN nq).cell? ⟨g, i, none⟩ = (nodeC ⟨id, conf, term, vote, role, leader, b, bt, es, snap, commit, left, wait, votes, next, mtch⟩ x2 0)[i]? := N4.out.blk.cells
        dsimp only [nodeC] at kN'
        have kM' : (w4.drewN nq).cell? ⟨w.heap.size + 1, 3, none⟩ = some (.int .i64 mt) := HM4'.out.cells 3
        have fN := N4.out.blk.free
        clear kN kM HN4 HB4 HM4 HZ4 HMB
        generalize w4.drewN nq = W4 at *
        have NRun := Lib.hid (((((((N4.out.run.set 2 (.int .i64 mt)).set 3 (.int .i64 0)).set 4 (.int .i64 0)).set 5 (.int .i64 0)).set 13 (.slice none 0 0)).set 14 (.slice none 0 0)).set 15 (.slice none 0 0))
        have NS := Lib.hid (NRun.out.nd0 ⟨id, conf, mt, 0, 0, 0, b, bt, es, snap, commit, left, wait, [], [], []⟩ (by simp only [nodeC, List.setIfInBounds_toArray, List.set_cons_succ, List.set_cons_zero, List.length_nil]) rfl rfl rfl rfl rfl)
        have HBS := Lib.hid (bel_bel HB4'.out NRun.out.bel (by omega))
        have HMS := Lib.hid (HM4'.out.below NRun.out.bel (by omega))
        have HZS := Lib.hid (HZ4'.out.below NRun.out.bel (by omega))
        have HMB : Hid (me.length ≤ cap ∧ RdB w1.heap.size (((((((W4.setCell ⟨g, 2, none⟩ (.int .i64 mt)).setCell ⟨g, 3, none⟩ (.int .i64 0)).setCell ⟨g, 4, none⟩ (.int .i64 0)).setCell ⟨g, 5, none⟩ (.int .i64 0)).setCell ⟨g, 13, none⟩ (.slice none 0 0)).setCell ⟨g, 14, none⟩ (.slice none 0 0)).setCell ⟨g, 15, none⟩ (.slice none 0 0)) A me) := Lib.hid ⟨HMB'.out.1, HMB'.out.2.low NRun.out.bel⟩
        clear NRun HB4' HM4' HZ4' HMB'
        go_wp2_with fail
        generalize ((((((W4.setCell ⟨g, 2, none⟩ (.int .i64 mt)).setCell ⟨g, 3, none⟩ (.int .i64 0)).setCell ⟨g, 4, none⟩ (.int .i64 0)).setCell ⟨g, 5, none⟩ (.int .i64 0)).setCell ⟨g, 13, none⟩ (.slice none 0 0)).setCell ⟨g, 14, none⟩ (.slice none 0 0)).setCell ⟨g, 15, none⟩ (.slice none 0 0) = WS at *
        have kN5 : WS.cell? ⟨g, 2, none⟩ = some (.int .i64 mt) := NS.out.blk.cells 2
        have kM5 : WS.cell? ⟨w.heap.size + 1, 3, none⟩ = some (.int .i64 mt) := HMS.out.cells 3
        clear kN' kM' fN N4
        go_quiet (fail)
        have NS := Lib.hid (NS.out.bel (bel_drewN (Below.refl WS.heap.size WS) nq))
        have HBS := Lib.hid (bel_drewN HBS.out nq)
        have HMS := Lib.hid (HMS.out.drewN nq)
        have HZS := Lib.hid (HZS.out.drewN nq)
        have HMB : Hid (me.length ≤ cap ∧ RdB w1.heap.size (WS.drewN nq) A me) := Lib.hid ⟨HMB.out.1, HMB.out.2.low (bel_drewN (Below.refl _ _) _)⟩
        clear kN5 kM5
        generalize WS.drewN nq = WS at *
        have kM : WS.cell? ⟨w.heap.size + 1, 0, none⟩ = some (.int .i64 mk) := HMS.out.cells 0
        by_cases k1 : mk = 1
        · subst k1
          have HQS := Lib.hid (show q = Rf.ask ⟨id, conf, mt, 0, 0, 0, b, bt, es, snap, commit, left, wait, [], [], []⟩ ⟨1, ms, md, mt, mi, ml, mc, my, me, mdt⟩ from HQS.out)

          go_wp2_with (refine wpList_loadB rfl 30 (.tmp 3) rfl (w.heap.size + 1) rfl HMS.out Tryz.underlying30 infoMs ?_)
          refine (ask_calls NS (by simp) (Rf.es_le HBR.out) ⟨1, ms, md, mt, mi, ml, mc, my, me, mdt⟩ A cap).mono ?_
          rintro e w6 ⟨rfl, ⟨col6, x6, LV, _, _, hLV, hN6⟩, hb6⟩
          rw [List.nil_append] at hN6
          obtain ⟨s, hs⟩ : ∃ s, s = (Rf.ask ⟨id, conf, mt, 0, 0, 0, b, bt, es, snap, commit, left, wait, [], [], []⟩ ⟨1, ms, md, mt, mi, ml, mc, my, me, mdt⟩).1 := ⟨_, rfl⟩
          obtain ⟨Ms, hMs⟩ : ∃ Ms, Ms = (Rf.ask ⟨id, conf, mt, 0, 0, 0, b, bt, es, snap, commit, left, wait, [], [], []⟩ ⟨1, ms, md, mt, mi, ml, mc, my, me, mdt⟩).2 := ⟨_, rfl⟩
          rw [← hs] at hN6
          rw [← hMs] at hLV
          have HQ6 := Lib.hid (show q = (s, Ms) from by rw [HQS.out, hs, hMs])
          have HLV := Lib.hid hLV
          have N6 := Lib.hid hN6
          have HB6 := Lib.hid (bel_bel HBS.out hb6 (by omega))
          have HZ6 := Lib.hid (HZS.out.below hb6 (by omega))
          clear hs hMs hLV hN6 hb6 kM HQS
          go_wp2_with fail
          have NF := Lib.hid (N6.out.bel (bel_drew (Below.refl _ _)))
          have HBF := Lib.hid (bel_drew HB6.out)
          have HZF := Lib.hid (HZ6.out.bel (bel_drew (Below.refl _ _)))
          refine wp_region_heldD (S := fun W => Blk W g 53 (nodeC s x6 LV.length)) (by kernel_rfl) ?_
          have hS : Blk (w6.drew) g 53 (nodeC s x6 LV.length) := NF.out.blk
          refine wpAnyH_take (i := 0) (v := .pointer (some ⟨g, 0, none⟩)) rfl (by kernel_rfl) (by kernel_rfl) (by kernel_rfl) (fun _ _ _ h => h) (Or.inl ⟨by rfl, fun W hW => by go_simp⟩) hS ?_
          simp only [Act.put, List.getElem_toArray, List.getElem_cons_zero, List.getElem_cons_succ, List.setIfInBounds_toArray, List.set_cons_zero, List.set_cons_succ]
          refine wpAnyH_take (i := 1) (v := .pointer (some ⟨g, 0, none⟩)) rfl (by kernel_rfl) (by kernel_rfl) (by kernel_rfl) (fun _ _ _ h => h) (Or.inl ⟨by rfl, fun W hW => by go_simp⟩) hS ?_
          simp only [Act.put, List.getElem_toArray, List.getElem_cons_zero, List.getElem_cons_succ, List.setIfInBounds_toArray, List.set_cons_zero, List.set_cons_succ]
          refine wpAnyH_take (i := 2) (v := .pointer (some ⟨g, 0, none⟩)) rfl (by kernel_rfl) (by kernel_rfl) (by kernel_rfl) (fun _ _ _ h => h) (Or.inl ⟨by rfl, fun W hW => by go_simp⟩) hS ?_
          simp only [Act.put, List.getElem_toArray, List.getElem_cons_zero, List.getElem_cons_succ, List.setIfInBounds_toArray, List.set_cons_zero, List.set_cons_succ]
          refine wpAnyH_take (i := 3) (v := .agg (raftL s x6).toArray) rfl (by kernel_rfl) (by kernel_rfl) (by kernel_rfl) (fun _ _ _ h => h) (yieldsIf_load_mid rfl _ _ rfl g 0 rfl (raftL s x6) _ (fun W hW => Blk.range hW _ rfl) Tryz.underlying28 rfl infoR) hS ?_
          simp only [Act.put, List.getElem_toArray, List.getElem_cons_zero, List.getElem_cons_succ, List.setIfInBounds_toArray, List.set_cons_zero, List.set_cons_succ]
          refine wpAnyH_take (i := 4) (v := .pointer (some ⟨g, 0, none⟩)) rfl (by kernel_rfl) (by kernel_rfl) (by kernel_rfl) (fun _ _ _ h => h) (Or.inl ⟨by rfl, fun W hW => by go_simp⟩) hS ?_
          simp only [Act.put, List.getElem_toArray, List.getElem_cons_zero, List.getElem_cons_succ, List.setIfInBounds_toArray, List.set_cons_zero, List.set_cons_succ]
          refine wpAnyH_take (i := 5) (v := .pointer (some ⟨g, 0, none⟩)) rfl (by kernel_rfl) (by kernel_rfl) (by kernel_rfl) (fun _ _ _ h => h) (Or.inl ⟨by rfl, fun W hW => by go_simp⟩) hS ?_
          simp only [Act.put, List.getElem_toArray, List.getElem_cons_zero, List.getElem_cons_succ, List.setIfInBounds_toArray, List.set_cons_zero, List.set_cons_succ]
          refine wpAnyH_take (i := 6) (v := .pointer (some ⟨g, 16, none⟩)) rfl (by kernel_rfl) (by kernel_rfl) (by kernel_rfl) (fun _ _ _ h => h) (Or.inl ⟨by rfl, fun W hW => by go_simp⟩) hS ?_
          simp only [Act.put, List.getElem_toArray, List.getElem_cons_zero, List.getElem_cons_succ, List.setIfInBounds_toArray, List.set_cons_zero, List.set_cons_succ]
          refine wpAnyH_take (i := 7) (v := .slice x6.oA LV.length x6.oc) rfl (by kernel_rfl) (by kernel_rfl) (by kernel_rfl) (fun _ _ _ h => h) (Or.inl ⟨by rfl, fun W hW => by
            have h16 : W.cell? ⟨g, 16, none⟩ = some (.slice x6.oA LV.length x6.oc) := Blk.cells hW 16
            clear hW
            go_simp⟩) hS ?_
          simp only [Act.put, List.getElem_toArray, List.getElem_cons_zero, List.getElem_cons_succ, List.setIfInBounds_toArray, List.set_cons_zero, List.set_cons_succ]
          generalize w6.drew = WF at *
          refine wpAnyH_one (i := 8) (by kernel_rfl) rfl rfl ?_
          intro K hK
          simp only [List.getElem_toArray, List.getElem_cons_succ, List.getElem_cons_zero]
          refine wp_store_row _ _ _ rfl (w.heap.size + 1 + 1) (raftL s x6).toArray rfl rfl _ _ HZF.out infoR rfl (raftL_one _ _) (hK _ _ (Blk.rowFar hS hgne3 _) ?_)
          clear hK K
          simp only [Act.put, List.getElem_toArray, List.getElem_cons_zero, List.getElem_cons_succ, List.setIfInBounds_toArray, List.set_cons_zero, List.set_cons_succ]
          have hld := run_loadVarB (P := Tryz.prog) (HZF.out.rowSame (raftL s x6).toArray) 28 Tryz.underlying28 infoR
          have HRow := Lib.hid (Rest.row1 (NF.out.rest.lowCol) (lowCol_lt hzl.out) (raftL s x6).toArray)
          have HBR2 := Lib.hid (bel_row HBF.out hz2.out (raftL s x6).toArray)
          have hS := Blk.rowFar hS hgne3 (raftL s x6).toArray
          generalize WF.setRow (w.heap.size + 1 + 1) (raftL s x6).toArray = WG at *
          refine wpAnyH_one (i := 9) (by kernel_rfl) rfl rfl ?_
          intro K hK
          go_simp
          refine hK _ _ hS ?_
          clear hK K
          refine ⟨by kernel_rfl, ?_⟩
          go_wp2_with fail
          refine bodyPost_ret (v := .tuple #[raftV s x6, .slice x6.oA LV.length x6.oc]) (by simp [results, Tryz.results6, asAddr, hld]) rfl ?_
          rw [HQ6.out]
          exact ⟨⟨x6, lowCol w1.heap.size col6, LV, rfl, HLV.out, HRow.out.low (by omega)⟩, HBR2.out⟩
        have kb1 : (mk == 1) = false := by rw [beq_eq_false_iff_ne]; exact k1
        by_cases k2 : mk = 2
        · subst k2
          have HQS := Lib.hid (show q = Rf.grant ⟨id, conf, mt, 0, 0, 0, b, bt, es, snap, commit, left, wait, [], [], []⟩ ⟨2, ms, md, mt, mi, ml, mc, my, me, mdt⟩ from HQS.out)

          go_wp2_with (refine wpList_loadB rfl 30 (.tmp 3) rfl (w.heap.size + 1) rfl HMS.out Tryz.underlying30 infoMs ?_)
          refine (grant_calls NS (by simp) HBR (Rf.votes_le HBR.out HRL.out) ⟨2, ms, md, mt, mi, ml, mc, my, me, mdt⟩ A cap).mono ?_
          rintro e w6 ⟨rfl, ⟨col6, x6, LV, _, _, hLV, hN6⟩, hb6⟩
          rw [List.nil_append] at hN6
          obtain ⟨s, hs⟩ : ∃ s, s = (Rf.grant ⟨id, conf, mt, 0, 0, 0, b, bt, es, snap, commit, left, wait, [], [], []⟩ ⟨2, ms, md, mt, mi, ml, mc, my, me, mdt⟩).1 := ⟨_, rfl⟩
          obtain ⟨Ms, hMs⟩ : ∃ Ms, Ms = (Rf.grant ⟨id, conf, mt, 0, 0, 0, b, bt, es, snap, commit, left, wait, [], [], []⟩ ⟨2, ms, md, mt, mi, ml, mc, my, me, mdt⟩).2 := ⟨_, rfl⟩
          rw [← hs] at hN6
          rw [← hMs] at hLV
          have HQ6 := Lib.hid (show q = (s, Ms) from by rw [HQS.out, hs, hMs])
          have HLV := Lib.hid hLV
          have N6 := Lib.hid hN6
          have HB6 := Lib.hid (bel_bel HBS.out hb6 (by omega))
          have HZ6 := Lib.hid (HZS.out.below hb6 (by omega))
          clear hs hMs hLV hN6 hb6 kM HQS
          go_wp2_with fail
          have NF := Lib.hid (N6.out.bel (bel_drew (Below.refl _ _)))
          have HBF := Lib.hid (bel_drew HB6.out)
          have HZF := Lib.hid (HZ6.out.bel (bel_drew (Below.refl _ _)))
          refine wp_region_heldD (S := fun W => Blk W g 53 (nodeC s x6 LV.length)) (by kernel_rfl) ?_
          have hS : Blk (w6.drew) g 53 (nodeC s x6 LV.length) := NF.out.blk
          refine wpAnyH_take (i := 0) (v := .pointer (some ⟨g, 0, none⟩)) rfl (by kernel_rfl) (by kernel_rfl) (by kernel_rfl) (fun _ _ _ h => h) (Or.inl ⟨by rfl, fun W hW => by go_simp⟩) hS ?_
          simp only [Act.put, List.getElem_toArray, List.getElem_cons_zero, List.getElem_cons_succ, List.setIfInBounds_toArray, List.set_cons_zero, List.set_cons_succ]
          refine wpAnyH_take (i := 1) (v := .pointer (some ⟨g, 0, none⟩)) rfl (by kernel_rfl) (by kernel_rfl) (by kernel_rfl) (fun _ _ _ h => h) (Or.inl ⟨by rfl, fun W hW => by go_simp⟩) hS ?_
          simp only [Act.put, List.getElem_toArray, List.getElem_cons_zero, List.getElem_cons_succ, List.setIfInBounds_toArray, List.set_cons_zero, List.set_cons_succ]
          refine wpAnyH_take (i := 2) (v := .pointer (some ⟨g, 0, none⟩)) rfl (by kernel_rfl) (by kernel_rfl) (by kernel_rfl) (fun _ _ _ h => h) (Or.inl ⟨by rfl, fun W hW => by go_simp⟩) hS ?_
          simp only [Act.put, List.getElem_toArray, List.getElem_cons_zero, List.getElem_cons_succ, List.setIfInBounds_toArray, List.set_cons_zero, List.set_cons_succ]
          refine wpAnyH_take (i := 3) (v := .agg (raftL s x6).toArray) rfl (by kernel_rfl) (by kernel_rfl) (by kernel_rfl) (fun _ _ _ h => h) (yieldsIf_load_mid rfl _ _ rfl g 0 rfl (raftL s x6) _ (fun W hW => Blk.range hW _ rfl) Tryz.underlying28 rfl infoR) hS ?_
          simp only [Act.put, List.getElem_toArray, List.getElem_cons_zero, List.getElem_cons_succ, List.setIfInBounds_toArray, List.set_cons_zero, List.set_cons_succ]
          refine wpAnyH_take (i := 4) (v := .pointer (some ⟨g, 0, none⟩)) rfl (by kernel_rfl) (by kernel_rfl) (by kernel_rfl) (fun _ _ _ h => h) (Or.inl ⟨by rfl, fun W hW => by go_simp⟩) hS ?_
          simp only [Act.put, List.getElem_toArray, List.getElem_cons_zero, List.getElem_cons_succ, List.setIfInBounds_toArray, List.set_cons_zero, List.set_cons_succ]
          refine wpAnyH_take (i := 5) (v := .pointer (some ⟨g, 0, none⟩)) rfl (by kernel_rfl) (by kernel_rfl) (by kernel_rfl) (fun _ _ _ h => h) (Or.inl ⟨by rfl, fun W hW => by go_simp⟩) hS ?_
          simp only [Act.put, List.getElem_toArray, List.getElem_cons_zero, List.getElem_cons_succ, List.setIfInBounds_toArray, List.set_cons_zero, List.set_cons_succ]
          refine wpAnyH_take (i := 6) (v := .pointer (some ⟨g, 16, none⟩)) rfl (by kernel_rfl) (by kernel_rfl) (by kernel_rfl) (fun _ _ _ h => h) (Or.inl ⟨by rfl, fun W hW => by go_simp⟩) hS ?_
          simp only [Act.put, List.getElem_toArray, List.getElem_cons_zero, List.getElem_cons_succ, List.setIfInBounds_toArray, List.set_cons_zero, List.set_cons_succ]
          refine wpAnyH_take (i := 7) (v := .slice x6.oA LV.length x6.oc) rfl (by kernel_rfl) (by kernel_rfl) (by kernel_rfl) (fun _ _ _ h => h) (Or.inl ⟨by rfl, fun W hW => by
            have h16 : W.cell? ⟨g, 16, none⟩ = some (.slice x6.oA LV.length x6.oc) := Blk.cells hW 16
            clear hW
            go_simp⟩) hS ?_
          simp only [Act.put, List.getElem_toArray, List.getElem_cons_zero, List.getElem_cons_succ, List.setIfInBounds_toArray, List.set_cons_zero, List.set_cons_succ]
          generalize w6.drew = WF at *
          refine wpAnyH_one (i := 8) (by kernel_rfl) rfl rfl ?_
          intro K hK
          simp only [List.getElem_toArray, List.getElem_cons_succ, List.getElem_cons_zero]
          refine wp_store_row _ _ _ rfl (w.heap.size + 1 + 1) (raftL s x6).toArray rfl rfl _ _ HZF.out infoR rfl (raftL_one _ _) (hK _ _ (Blk.rowFar hS hgne3 _) ?_)
          clear hK K
          simp only [Act.put, List.getElem_toArray, List.getElem_cons_zero, List.getElem_cons_succ, List.setIfInBounds_toArray, List.set_cons_zero, List.set_cons_succ]
          have hld := run_loadVarB (P := Tryz.prog) (HZF.out.rowSame (raftL s x6).toArray) 28 Tryz.underlying28 infoR
          have HRow := Lib.hid (Rest.row1 (NF.out.rest.lowCol) (lowCol_lt hzl.out) (raftL s x6).toArray)
          have HBR2 := Lib.hid (bel_row HBF.out hz2.out (raftL s x6).toArray)
          have hS := Blk.rowFar hS hgne3 (raftL s x6).toArray
          generalize WF.setRow (w.heap.size + 1 + 1) (raftL s x6).toArray = WG at *
          refine wpAnyH_one (i := 9) (by kernel_rfl) rfl rfl ?_
          intro K hK
          go_simp
          refine hK _ _ hS ?_
          clear hK K
          refine ⟨by kernel_rfl, ?_⟩
          go_wp2_with fail
          refine bodyPost_ret (v := .tuple #[raftV s x6, .slice x6.oA LV.length x6.oc]) (by simp [results, Tryz.results6, asAddr, hld]) rfl ?_
          rw [HQ6.out]
          exact ⟨⟨x6, lowCol w1.heap.size col6, LV, rfl, HLV.out, HRow.out.low (by omega)⟩, HBR2.out⟩
        have kb2 : (mk == 2) = false := by rw [beq_eq_false_iff_ne]; exact k2
        by_cases k4 : mk = 4
        · subst k4
          have HQS := Lib.hid (show q = Rf.ack ⟨id, conf, mt, 0, 0, 0, b, bt, es, snap, commit, left, wait, [], [], []⟩ ⟨4, ms, md, mt, mi, ml, mc, my, me, mdt⟩ from HQS.out)

          go_wp2_with (refine wpList_loadB rfl 30 (.tmp 3) rfl (w.heap.size + 1) rfl HMS.out Tryz.underlying30 infoMs ?_)
          refine (ack_calls NS (by simp) HBR HLD ⟨4, ms, md, mt, mi, ml, mc, my, me, mdt⟩ HTK A cap).mono ?_
          rintro e w6 ⟨rfl, ⟨col6, x6, LV, _, _, hLV, hN6⟩, hb6⟩
          rw [List.nil_append] at hN6
          obtain ⟨s, hs⟩ : ∃ s, s = (Rf.ack ⟨id, conf, mt, 0, 0, 0, b, bt, es, snap, commit, left, wait, [], [], []⟩ ⟨4, ms, md, mt, mi, ml, mc, my, me, mdt⟩).1 := ⟨_, rfl⟩
          obtain ⟨Ms, hMs⟩ : ∃ Ms, Ms = (Rf.ack ⟨id, conf, mt, 0, 0, 0, b, bt, es, snap, commit, left, wait, [], [], []⟩ ⟨4, ms, md, mt, mi, ml, mc, my, me, mdt⟩).2 := ⟨_, rfl⟩
          rw [← hs] at hN6
          rw [← hMs] at hLV
          have HQ6 := Lib.hid (show q = (s, Ms) from by rw [HQS.out, hs, hMs])
          have HLV := Lib.hid hLV
          have N6 := Lib.hid hN6
          have HB6 := Lib.hid (bel_bel HBS.out hb6 (by omega))
          have HZ6 := Lib.hid (HZS.out.below hb6 (by omega))
          clear hs hMs hLV hN6 hb6 kM HQS
          go_wp2_with fail
          have NF := Lib.hid (N6.out.bel (bel_drew (Below.refl _ _)))
          have HBF := Lib.hid (bel_drew HB6.out)
          have HZF := Lib.hid (HZ6.out.bel (bel_drew (Below.refl _ _)))
          refine wp_region_heldD (S := fun W => Blk W g 53 (nodeC s x6 LV.length)) (by kernel_rfl) ?_
          have hS : Blk (w6.drew) g 53 (nodeC s x6 LV.length) := NF.out.blk
          refine wpAnyH_take (i := 0) (v := .pointer (some ⟨g, 0, none⟩)) rfl (by kernel_rfl) (by kernel_rfl) (by kernel_rfl) (fun _ _ _ h => h) (Or.inl ⟨by rfl, fun W hW => by go_simp⟩) hS ?_
          simp only [Act.put, List.getElem_toArray, List.getElem_cons_zero, List.getElem_cons_succ, List.setIfInBounds_toArray, List.set_cons_zero, List.set_cons_succ]
          refine wpAnyH_take (i := 1) (v := .pointer (some ⟨g, 0, none⟩)) rfl (by kernel_rfl) (by kernel_rfl) (by kernel_rfl) (fun _ _ _ h => h) (Or.inl ⟨by rfl, fun W hW => by go_simp⟩) hS ?_
          simp only [Act.put, List.getElem_toArray, List.getElem_cons_zero, List.getElem_cons_succ, List.setIfInBounds_toArray, List.set_cons_zero, List.set_cons_succ]
          refine wpAnyH_take (i := 2) (v := .pointer (some ⟨g, 0, none⟩)) rfl (by kernel_rfl) (by kernel_rfl) (by kernel_rfl) (fun _ _ _ h => h) (Or.inl ⟨by rfl, fun W hW => by go_simp⟩) hS ?_
          simp only [Act.put, List.getElem_toArray, List.getElem_cons_zero, List.getElem_cons_succ, List.setIfInBounds_toArray, List.set_cons_zero, List.set_cons_succ]
          refine wpAnyH_take (i := 3) (v := .agg (raftL s x6).toArray) rfl (by kernel_rfl) (by kernel_rfl) (by kernel_rfl) (fun _ _ _ h => h) (yieldsIf_load_mid rfl _ _ rfl g 0 rfl (raftL s x6) _ (fun W hW => Blk.range hW _ rfl) Tryz.underlying28 rfl infoR) hS ?_
          simp only [Act.put, List.getElem_toArray, List.getElem_cons_zero, List.getElem_cons_succ, List.setIfInBounds_toArray, List.set_cons_zero, List.set_cons_succ]
          refine wpAnyH_take (i := 4) (v := .pointer (some ⟨g, 0, none⟩)) rfl (by kernel_rfl) (by kernel_rfl) (by kernel_rfl) (fun _ _ _ h => h) (Or.inl ⟨by rfl, fun W hW => by go_simp⟩) hS ?_
          simp only [Act.put, List.getElem_toArray, List.getElem_cons_zero, List.getElem_cons_succ, List.setIfInBounds_toArray, List.set_cons_zero, List.set_cons_succ]
          refine wpAnyH_take (i := 5) (v := .pointer (some ⟨g, 0, none⟩)) rfl (by kernel_rfl) (by kernel_rfl) (by kernel_rfl) (fun _ _ _ h => h) (Or.inl ⟨by rfl, fun W hW => by go_simp⟩) hS ?_
          simp only [Act.put, List.getElem_toArray, List.getElem_cons_zero, List.getElem_cons_succ, List.setIfInBounds_toArray, List.set_cons_zero, List.set_cons_succ]
          refine wpAnyH_take (i := 6) (v := .pointer (some ⟨g, 16, none⟩)) rfl (by kernel_rfl) (by kernel_rfl) (by kernel_rfl) (fun _ _ _ h => h) (Or.inl ⟨by rfl, fun W hW => by go_simp⟩) hS ?_
          simp only [Act.put, List.getElem_toArray, List.getElem_cons_zero, List.getElem_cons_succ, List.setIfInBounds_toArray, List.set_cons_zero, List.set_cons_succ]
          refine wpAnyH_take (i := 7) (v := .slice x6.oA LV.length x6.oc) rfl (by kernel_rfl) (by kernel_rfl) (by kernel_rfl) (fun _ _ _ h => h) (Or.inl ⟨by rfl, fun W hW => by
            have h16 : W.cell? ⟨g, 16, none⟩ = some (.slice x6.oA LV.length x6.oc) := Blk.cells hW 16
            clear hW
            go_simp⟩) hS ?_
          simp only [Act.put, List.getElem_toArray, List.getElem_cons_zero, List.getElem_cons_succ, List.setIfInBounds_toArray, List.set_cons_zero, List.set_cons_succ]
          generalize w6.drew = WF at *
          refine wpAnyH_one (i := 8) (by kernel_rfl) rfl rfl ?_
          intro K hK
          simp only [List.getElem_toArray, List.getElem_cons_succ, List.getElem_cons_zero]
          refine wp_store_row _ _ _ rfl (w.heap.size + 1 + 1) (raftL s x6).toArray rfl rfl _ _ HZF.out infoR rfl (raftL_one _ _) (hK _ _ (Blk.rowFar hS hgne3 _) ?_)
          clear hK K
          simp only [Act.put, List.getElem_toArray, List.getElem_cons_zero, List.getElem_cons_succ, List.setIfInBounds_toArray, List.set_cons_zero, List.set_cons_succ]
          have hld := run_loadVarB (P := Tryz.prog) (HZF.out.rowSame (raftL s x6).toArray) 28 Tryz.underlying28 infoR
          have HRow := Lib.hid (Rest.row1 (NF.out.rest.lowCol) (lowCol_lt hzl.out) (raftL s x6).toArray)
          have HBR2 := Lib.hid (bel_row HBF.out hz2.out (raftL s x6).toArray)
          have hS := Blk.rowFar hS hgne3 (raftL s x6).toArray
          generalize WF.setRow (w.heap.size + 1 + 1) (raftL s x6).toArray = WG at *
          refine wpAnyH_one (i := 9) (by kernel_rfl) rfl rfl ?_
          intro K hK
          go_simp
          refine hK _ _ hS ?_
          clear hK K
          refine ⟨by kernel_rfl, ?_⟩
          go_wp2_with fail
          refine bodyPost_ret (v := .tuple #[raftV s x6, .slice x6.oA LV.length x6.oc]) (by simp [results, Tryz.results6, asAddr, hld]) rfl ?_
          rw [HQ6.out]
          exact ⟨⟨x6, lowCol w1.heap.size col6, LV, rfl, HLV.out, HRow.out.low (by omega)⟩, HBR2.out⟩
        have kb4 : (mk == 4) = false := by rw [beq_eq_false_iff_ne]; exact k4
        have kNS : WS.cell? ⟨g, 4, none⟩ = some (.int .i64 (0 : Int)) := NS.out.blk.cells 4
        have HQS := Lib.hid (show q = if (0 : Int) = 2 then (⟨id, conf, mt, 0, 0, 0, b, bt, es, snap, commit, left, wait, [], [], []⟩, []) else if mk = 3 then Rf.take ⟨id, conf, mt, 0, 0, 0, b, bt, es, snap, commit, left, wait, [], [], []⟩ ⟨mk, ms, md, mt, mi, ml, mc, my, me, mdt⟩ else Rf.bundle ⟨id, conf, mt, 0, 0, 0, b, bt, es, snap, commit, left, wait, [], [], []⟩ ⟨mk, ms, md, mt, mi, ml, mc, my, me, mdt⟩ from by rw [HQS.out]; unfold Rf.same; simp only [if_neg k1, if_neg k2, if_neg k4])
        have HQS := Lib.hid (show q = if mk = 3 then Rf.take ⟨id, conf, mt, 0, 0, 0, b, bt, es, snap, commit, left, wait, [], [], []⟩ ⟨mk, ms, md, mt, mi, ml, mc, my, me, mdt⟩ else Rf.bundle ⟨id, conf, mt, 0, 0, 0, b, bt, es, snap, commit, left, wait, [], [], []⟩ ⟨mk, ms, md, mt, mi, ml, mc, my, me, mdt⟩ from by rw [HQS.out]; exact if_neg (by decide))
        by_cases k3 : mk = 3
        · have HQT := Lib.hid (show q = Rf.take ⟨id, conf, mt, 0, 0, 0, b, bt, es, snap, commit, left, wait, [], [], []⟩ ⟨mk, ms, md, mt, mi, ml, mc, my, me, mdt⟩ from by rw [HQS.out, if_pos k3])
          subst k3

          go_wp2_with (refine wpList_loadB rfl 30 (.tmp 3) rfl (w.heap.size + 1) rfl HMS.out Tryz.underlying30 infoMs ?_)
          refine (take_calls NS (by simp) HBR ⟨3, ms, md, mt, mi, ml, mc, my, me, mdt⟩ HTK A cap HMB).mono ?_
          rintro e w6 ⟨rfl, ⟨col6, x6, LV, _, _, hLV, hN6⟩, hb6⟩
          rw [List.nil_append] at hN6
          obtain ⟨s, hs⟩ : ∃ s, s = (Rf.take ⟨id, conf, mt, 0, 0, 0, b, bt, es, snap, commit, left, wait, [], [], []⟩ ⟨3, ms, md, mt, mi, ml, mc, my, me, mdt⟩).1 := ⟨_, rfl⟩
          obtain ⟨Ms, hMs⟩ : ∃ Ms, Ms = (Rf.take ⟨id, conf, mt, 0, 0, 0, b, bt, es, snap, commit, left, wait, [], [], []⟩ ⟨3, ms, md, mt, mi, ml, mc, my, me, mdt⟩).2 := ⟨_, rfl⟩
          rw [← hs] at hN6
          rw [← hMs] at hLV
          have HQ6 := Lib.hid (show q = (s, Ms) from by rw [HQT.out, hs, hMs])
          have HLV := Lib.hid hLV
          have N6 := Lib.hid hN6
          have HB6 := Lib.hid (bel_bel HBS.out hb6 (by omega))
          have HZ6 := Lib.hid (HZS.out.below hb6 (by omega))
          clear kNS hs hMs hLV hN6 hb6 kM HQT
          go_wp2_with fail
          have NF := Lib.hid (N6.out.bel (bel_drew (Below.refl _ _)))
          have HBF := Lib.hid (bel_drew HB6.out)
          have HZF := Lib.hid (HZ6.out.bel (bel_drew (Below.refl _ _)))
          refine wp_region_heldD (S := fun W => Blk W g 53 (nodeC s x6 LV.length)) (by kernel_rfl) ?_
          have hS : Blk (w6.drew) g 53 (nodeC s x6 LV.length) := NF.out.blk
          refine wpAnyH_take (i := 0) (v := .pointer (some ⟨g, 0, none⟩)) rfl (by kernel_rfl) (by kernel_rfl) (by kernel_rfl) (fun _ _ _ h => h) (Or.inl ⟨by rfl, fun W hW => by go_simp⟩) hS ?_
          simp only [Act.put, List.getElem_toArray, List.getElem_cons_zero, List.getElem_cons_succ, List.setIfInBounds_toArray, List.set_cons_zero, List.set_cons_succ]
          refine wpAnyH_take (i := 1) (v := .pointer (some ⟨g, 0, none⟩)) rfl (by kernel_rfl) (by kernel_rfl) (by kernel_rfl) (fun _ _ _ h => h) (Or.inl ⟨by rfl, fun W hW => by go_simp⟩) hS ?_
          simp only [Act.put, List.getElem_toArray, List.getElem_cons_zero, List.getElem_cons_succ, List.setIfInBounds_toArray, List.set_cons_zero, List.set_cons_succ]
          refine wpAnyH_take (i := 2) (v := .pointer (some ⟨g, 0, none⟩)) rfl (by kernel_rfl) (by kernel_rfl) (by kernel_rfl) (fun _ _ _ h => h) (Or.inl ⟨by rfl, fun W hW => by go_simp⟩) hS ?_
          simp only [Act.put, List.getElem_toArray, List.getElem_cons_zero, List.getElem_cons_succ, List.setIfInBounds_toArray, List.set_cons_zero, List.set_cons_succ]
          refine wpAnyH_take (i := 3) (v := .agg (raftL s x6).toArray) rfl (by kernel_rfl) (by kernel_rfl) (by kernel_rfl) (fun _ _ _ h => h) (yieldsIf_load_mid rfl _ _ rfl g 0 rfl (raftL s x6) _ (fun W hW => Blk.range hW _ rfl) Tryz.underlying28 rfl infoR) hS ?_
          simp only [Act.put, List.getElem_toArray, List.getElem_cons_zero, List.getElem_cons_succ, List.setIfInBounds_toArray, List.set_cons_zero, List.set_cons_succ]
          refine wpAnyH_take (i := 4) (v := .pointer (some ⟨g, 0, none⟩)) rfl (by kernel_rfl) (by kernel_rfl) (by kernel_rfl) (fun _ _ _ h => h) (Or.inl ⟨by rfl, fun W hW => by go_simp⟩) hS ?_
          simp only [Act.put, List.getElem_toArray, List.getElem_cons_zero, List.getElem_cons_succ, List.setIfInBounds_toArray, List.set_cons_zero, List.set_cons_succ]
          refine wpAnyH_take (i := 5) (v := .pointer (some ⟨g, 0, none⟩)) rfl (by kernel_rfl) (by kernel_rfl) (by kernel_rfl) (fun _ _ _ h => h) (Or.inl ⟨by rfl, fun W hW => by go_simp⟩) hS ?_
          simp only [Act.put, List.getElem_toArray, List.getElem_cons_zero, List.getElem_cons_succ, List.setIfInBounds_toArray, List.set_cons_zero, List.set_cons_succ]
          refine wpAnyH_take (i := 6) (v := .pointer (some ⟨g, 16, none⟩)) rfl (by kernel_rfl) (by kernel_rfl) (by kernel_rfl) (fun _ _ _ h => h) (Or.inl ⟨by rfl, fun W hW => by go_simp⟩) hS ?_
          simp only [Act.put, List.getElem_toArray, List.getElem_cons_zero, List.getElem_cons_succ, List.setIfInBounds_toArray, List.set_cons_zero, List.set_cons_succ]
          refine wpAnyH_take (i := 7) (v := .slice x6.oA LV.length x6.oc) rfl (by kernel_rfl) (by kernel_rfl) (by kernel_rfl) (fun _ _ _ h => h) (Or.inl ⟨by rfl, fun W hW => by
            have h16 : W.cell? ⟨g, 16, none⟩ = some (.slice x6.oA LV.length x6.oc) := Blk.cells hW 16
            clear hW
            go_simp⟩) hS ?_
          simp only [Act.put, List.getElem_toArray, List.getElem_cons_zero, List.getElem_cons_succ, List.setIfInBounds_toArray, List.set_cons_zero, List.set_cons_succ]
          generalize w6.drew = WF at *
          refine wpAnyH_one (i := 8) (by kernel_rfl) rfl rfl ?_
          intro K hK
          simp only [List.getElem_toArray, List.getElem_cons_succ, List.getElem_cons_zero]
          refine wp_store_row _ _ _ rfl (w.heap.size + 1 + 1) (raftL s x6).toArray rfl rfl _ _ HZF.out infoR rfl (raftL_one _ _) (hK _ _ (Blk.rowFar hS hgne3 _) ?_)
          clear hK K
          simp only [Act.put, List.getElem_toArray, List.getElem_cons_zero, List.getElem_cons_succ, List.setIfInBounds_toArray, List.set_cons_zero, List.set_cons_succ]
          have hld := run_loadVarB (P := Tryz.prog) (HZF.out.rowSame (raftL s x6).toArray) 28 Tryz.underlying28 infoR
          have HRow := Lib.hid (Rest.row1 (NF.out.rest.lowCol) (lowCol_lt hzl.out) (raftL s x6).toArray)
          have HBR2 := Lib.hid (bel_row HBF.out hz2.out (raftL s x6).toArray)
          have hS := Blk.rowFar hS hgne3 (raftL s x6).toArray
          generalize WF.setRow (w.heap.size + 1 + 1) (raftL s x6).toArray = WG at *
          refine wpAnyH_one (i := 9) (by kernel_rfl) rfl rfl ?_
          intro K hK
          go_simp
          refine hK _ _ hS ?_
          clear hK K
          refine ⟨by kernel_rfl, ?_⟩
          go_wp2_with fail
          refine bodyPost_ret (v := .tuple #[raftV s x6, .slice x6.oA LV.length x6.oc]) (by simp [results, Tryz.results6, asAddr, hld]) rfl ?_
          rw [HQ6.out]
          exact ⟨⟨x6, lowCol w1.heap.size col6, LV, rfl, HLV.out, HRow.out.low (by omega)⟩, HBR2.out⟩
        have k5 : mk = 5 := by have h0 := HTK.out.k0; have h1 := HTK.out.k1; simp only at h0 h1; omega
        have kb3 : (mk == 3) = false := by rw [beq_eq_false_iff_ne]; exact k3
        have HQS := Lib.hid (show q = Rf.bundle ⟨id, conf, mt, 0, 0, 0, b, bt, es, snap, commit, left, wait, [], [], []⟩ ⟨mk, ms, md, mt, mi, ml, mc, my, me, mdt⟩ from by rw [HQS.out, if_neg k3])
        subst k5

        go_wp2_with (refine wpList_loadB rfl 30 (.tmp 3) rfl (w.heap.size + 1) rfl HMS.out Tryz.underlying30 infoMs ?_)
        refine (bundle_calls NS (by simp) HBR ⟨5, ms, md, mt, mi, ml, mc, my, me, mdt⟩ HTK A cap).mono ?_
        rintro e w6 ⟨rfl, ⟨col6, x6, LV, _, _, hLV, hN6⟩, hb6⟩
        rw [List.nil_append] at hN6
        obtain ⟨s, hs⟩ : ∃ s, s = (Rf.bundle ⟨id, conf, mt, 0, 0, 0, b, bt, es, snap, commit, left, wait, [], [], []⟩ ⟨5, ms, md, mt, mi, ml, mc, my, me, mdt⟩).1 := ⟨_, rfl⟩
        obtain ⟨Ms, hMs⟩ : ∃ Ms, Ms = (Rf.bundle ⟨id, conf, mt, 0, 0, 0, b, bt, es, snap, commit, left, wait, [], [], []⟩ ⟨5, ms, md, mt, mi, ml, mc, my, me, mdt⟩).2 := ⟨_, rfl⟩
        rw [← hs] at hN6
        rw [← hMs] at hLV
        have HQ6 := Lib.hid (show q = (s, Ms) from by rw [HQS.out, hs, hMs])
        have HLV := Lib.hid hLV
        have N6 := Lib.hid hN6
        have HB6 := Lib.hid (bel_bel HBS.out hb6 (by omega))
        have HZ6 := Lib.hid (HZS.out.below hb6 (by omega))
        clear kNS hs hMs hLV hN6 hb6 kM HQS
        go_wp2_with fail
        have NF := Lib.hid (N6.out.bel (bel_drew (Below.refl _ _)))
        have HBF := Lib.hid (bel_drew HB6.out)
        have HZF := Lib.hid (HZ6.out.bel (bel_drew (Below.refl _ _)))
        refine wp_region_heldD (S := fun W => Blk W g 53 (nodeC s x6 LV.length)) (by kernel_rfl) ?_
        have hS : Blk (w6.drew) g 53 (nodeC s x6 LV.length) := NF.out.blk
        refine wpAnyH_take (i := 0) (v := .pointer (some ⟨g, 0, none⟩)) rfl (by kernel_rfl) (by kernel_rfl) (by kernel_rfl) (fun _ _ _ h => h) (Or.inl ⟨by rfl, fun W hW => by go_simp⟩) hS ?_
        simp only [Act.put, List.getElem_toArray, List.getElem_cons_zero, List.getElem_cons_succ, List.setIfInBounds_toArray, List.set_cons_zero, List.set_cons_succ]
        refine wpAnyH_take (i := 1) (v := .pointer (some ⟨g, 0, none⟩)) rfl (by kernel_rfl) (by kernel_rfl) (by kernel_rfl) (fun _ _ _ h => h) (Or.inl ⟨by rfl, fun W hW => by go_simp⟩) hS ?_
        simp only [Act.put, List.getElem_toArray, List.getElem_cons_zero, List.getElem_cons_succ, List.setIfInBounds_toArray, List.set_cons_zero, List.set_cons_succ]
        refine wpAnyH_take (i := 2) (v := .pointer (some ⟨g, 0, none⟩)) rfl (by kernel_rfl) (by kernel_rfl) (by kernel_rfl) (fun _ _ _ h => h) (Or.inl ⟨by rfl, fun W hW => by go_simp⟩) hS ?_
        simp only [Act.put, List.getElem_toArray, List.getElem_cons_zero, List.getElem_cons_succ, List.setIfInBounds_toArray, List.set_cons_zero, List.set_cons_succ]
        refine wpAnyH_take (i := 3) (v := .agg (raftL s x6).toArray) rfl (by kernel_rfl) (by kernel_rfl) (by kernel_rfl) (fun _ _ _ h => h) (yieldsIf_load_mid rfl _ _ rfl g 0 rfl (raftL s x6) _ (fun W hW => Blk.range hW _ rfl) Tryz.underlying28 rfl infoR) hS ?_
        simp only [Act.put, List.getElem_toArray, List.getElem_cons_zero, List.getElem_cons_succ, List.setIfInBounds_toArray, List.set_cons_zero, List.set_cons_succ]
        refine wpAnyH_take (i := 4) (v := .pointer (some ⟨g, 0, none⟩)) rfl (by kernel_rfl) (by kernel_rfl) (by kernel_rfl) (fun _ _ _ h => h) (Or.inl ⟨by rfl, fun W hW => by go_simp⟩) hS ?_
        simp only [Act.put, List.getElem_toArray, List.getElem_cons_zero, List.getElem_cons_succ, List.setIfInBounds_toArray, List.set_cons_zero, List.set_cons_succ]
        refine wpAnyH_take (i := 5) (v := .pointer (some ⟨g, 0, none⟩)) rfl (by kernel_rfl) (by kernel_rfl) (by kernel_rfl) (fun _ _ _ h => h) (Or.inl ⟨by rfl, fun W hW => by go_simp⟩) hS ?_
        simp only [Act.put, List.getElem_toArray, List.getElem_cons_zero, List.getElem_cons_succ, List.setIfInBounds_toArray, List.set_cons_zero, List.set_cons_succ]
        refine wpAnyH_take (i := 6) (v := .pointer (some ⟨g, 16, none⟩)) rfl (by kernel_rfl) (by kernel_rfl) (by kernel_rfl) (fun _ _ _ h => h) (Or.inl ⟨by rfl, fun W hW => by go_simp⟩) hS ?_
        simp only [Act.put, List.getElem_toArray, List.getElem_cons_zero, List.getElem_cons_succ, List.setIfInBounds_toArray, List.set_cons_zero, List.set_cons_succ]
        refine wpAnyH_take (i := 7) (v := .slice x6.oA LV.length x6.oc) rfl (by kernel_rfl) (by kernel_rfl) (by kernel_rfl) (fun _ _ _ h => h) (Or.inl ⟨by rfl, fun W hW => by
          have h16 : W.cell? ⟨g, 16, none⟩ = some (.slice x6.oA LV.length x6.oc) := Blk.cells hW 16
          clear hW
          go_simp⟩) hS ?_
        simp only [Act.put, List.getElem_toArray, List.getElem_cons_zero, List.getElem_cons_succ, List.setIfInBounds_toArray, List.set_cons_zero, List.set_cons_succ]
        generalize w6.drew = WF at *
        refine wpAnyH_one (i := 8) (by kernel_rfl) rfl rfl ?_
        intro K hK
        simp only [List.getElem_toArray, List.getElem_cons_succ, List.getElem_cons_zero]
        refine wp_store_row _ _ _ rfl (w.heap.size + 1 + 1) (raftL s x6).toArray rfl rfl _ _ HZF.out infoR rfl (raftL_one _ _) (hK _ _ (Blk.rowFar hS hgne3 _) ?_)
        clear hK K
        simp only [Act.put, List.getElem_toArray, List.getElem_cons_zero, List.getElem_cons_succ, List.setIfInBounds_toArray, List.set_cons_zero, List.set_cons_succ]
        have hld := run_loadVarB (P := Tryz.prog) (HZF.out.rowSame (raftL s x6).toArray) 28 Tryz.underlying28 infoR
        have HRow := Lib.hid (Rest.row1 (NF.out.rest.lowCol) (lowCol_lt hzl.out) (raftL s x6).toArray)
        have HBR2 := Lib.hid (bel_row HBF.out hz2.out (raftL s x6).toArray)
        have hS := Blk.rowFar hS hgne3 (raftL s x6).toArray
        generalize WF.setRow (w.heap.size + 1 + 1) (raftL s x6).toArray = WG at *
        refine wpAnyH_one (i := 9) (by kernel_rfl) rfl rfl ?_
        intro K hK
        go_simp
        refine hK _ _ hS ?_
        clear hK K
        refine ⟨by kernel_rfl, ?_⟩
        go_wp2_with fail
        refine bodyPost_ret (v := .tuple #[raftV s x6, .slice x6.oA LV.length x6.oc]) (by simp [results, Tryz.results6, asAddr, hld]) rfl ?_
        rw [HQ6.out]
        exact ⟨⟨x6, lowCol w1.heap.size col6, LV, rfl, HLV.out, HRow.out.low (by omega)⟩, HBR2.out⟩
      · have HGT := Lib.hid hgt
        have hgt1 : decide (term < mt) = false := decide_eq_false hgt
        go_quiet (fail)
        have NS := Lib.hid (HN4.out.bel (bel_drewN (Below.refl w4.heap.size w4) nq))
        have HBS := Lib.hid (bel_drewN HB4.out nq)
        have HMS := Lib.hid (HM4.out.drewN nq)
        have HZS := Lib.hid (HZ4.out.drewN nq)
        have HMB : Hid (me.length ≤ cap ∧ RdB w1.heap.size (w4.drewN nq) A me) := Lib.hid ⟨HMB.out.1, HMB.out.2.low (bel_drewN (Below.refl _ _) _)⟩
        have kN' : (w4.drewN nq).cell? ⟨g, 2, none⟩ = some (.int .i64 term) := NS.out.blk.cells 2
        have kM' : (w4.drewN nq).cell? ⟨w.heap.size + 1, 3, none⟩ = some (.int .i64 mt) := HMS.out.cells 3
        clear kN kM HN4 HB4 HM4 HZ4
        generalize w4.drewN nq = W4 at *
        go_wp2_with fail
        by_cases hlt : mt < term
        · have hlt1 : decide (mt < term) = true := decide_eq_true hlt
          have HQS := Lib.hid (show q = (⟨id, conf, term, vote, role, leader, b, bt, es, snap, commit, left, wait, votes, next, mtch⟩, Rf.late ⟨id, conf, term, vote, role, leader, b, bt, es, snap, commit, left, wait, votes, next, mtch⟩ ⟨mk, ms, md, mt, mi, ml, mc, my, me, mdt⟩) from by rw [HQ.out, if_pos hlt])
          clear HQ
          go_quiet (fail)
          have NS := Lib.hid (NS.out.bel (bel_drewN (Below.refl W4.heap.size W4) nq))
          have HBS := Lib.hid (bel_drewN HBS.out nq)
          have HMS := Lib.hid (HMS.out.drewN nq)
          have HZS := Lib.hid (HZS.out.drewN nq)
          clear kN' kM' HMB
          generalize W4.drewN nq = WS at *
          go_wp2_with (refine wpList_loadB rfl 30 (.tmp 3) rfl (w.heap.size + 1) rfl HMS.out Tryz.underlying30 infoMs ?_)
          refine (late_calls NS (by simp) ⟨mk, ms, md, mt, mi, ml, mc, my, me, mdt⟩ A cap).mono ?_
          rintro e w6 ⟨rfl, ⟨col6, oA6, oc6, LV, hLV, hN6⟩, hb6⟩
          rw [List.nil_append] at hN6
          obtain ⟨Ms, hMs⟩ : ∃ Ms, Ms = Rf.late ⟨id, conf, term, vote, role, leader, b, bt, es, snap, commit, left, wait, votes, next, mtch⟩ ⟨mk, ms, md, mt, mi, ml, mc, my, me, mdt⟩ := ⟨_, rfl⟩
          rw [← hMs] at hLV
          have HQ6 := Lib.hid (show q = (⟨id, conf, term, vote, role, leader, b, bt, es, snap, commit, left, wait, votes, next, mtch⟩, Ms) from by rw [HQS.out, hMs])
          have HLV := Lib.hid hLV
          have N6 := Lib.hid hN6
          have HB6 := Lib.hid (bel_bel HBS.out hb6 (by omega))
          have HZ6 := Lib.hid (HZS.out.below hb6 (by omega))
          clear hMs hLV hN6 hb6 HQS
          go_wp2_with fail
          have NF := Lib.hid (N6.out.bel (bel_drew (Below.refl _ _)))
          have HBF := Lib.hid (bel_drew HB6.out)
          have HZF := Lib.hid (HZ6.out.bel (bel_drew (Below.refl _ _)))
          refine wp_region_heldD (S := fun W => Blk W g 53 (nodeC ⟨id, conf, term, vote, role, leader, b, bt, es, snap, commit, left, wait, votes, next, mtch⟩ { x2 with oA := oA6, oc := oc6 } LV.length)) (by kernel_rfl) ?_
          have hS : Blk (w6.drew) g 53 (nodeC ⟨id, conf, term, vote, role, leader, b, bt, es, snap, commit, left, wait, votes, next, mtch⟩ { x2 with oA := oA6, oc := oc6 } LV.length) := NF.out.blk
          refine wpAnyH_take (i := 0) (v := .pointer (some ⟨g, 0, none⟩)) rfl (by kernel_rfl) (by kernel_rfl) (by kernel_rfl) (fun _ _ _ h => h) (Or.inl ⟨by rfl, fun W hW => by go_simp⟩) hS ?_
          simp only [Act.put, List.getElem_toArray, List.getElem_cons_zero, List.getElem_cons_succ, List.setIfInBounds_toArray, List.set_cons_zero, List.set_cons_succ]
          refine wpAnyH_take (i := 1) (v := .pointer (some ⟨g, 0, none⟩)) rfl (by kernel_rfl) (by kernel_rfl) (by kernel_rfl) (fun _ _ _ h => h) (Or.inl ⟨by rfl, fun W hW => by go_simp⟩) hS ?_
          simp only [Act.put, List.getElem_toArray, List.getElem_cons_zero, List.getElem_cons_succ, List.setIfInBounds_toArray, List.set_cons_zero, List.set_cons_succ]
          refine wpAnyH_take (i := 2) (v := .pointer (some ⟨g, 0, none⟩)) rfl (by kernel_rfl) (by kernel_rfl) (by kernel_rfl) (fun _ _ _ h => h) (Or.inl ⟨by rfl, fun W hW => by go_simp⟩) hS ?_
          simp only [Act.put, List.getElem_toArray, List.getElem_cons_zero, List.getElem_cons_succ, List.setIfInBounds_toArray, List.set_cons_zero, List.set_cons_succ]
          refine wpAnyH_take (i := 3) (v := .agg (raftL ⟨id, conf, term, vote, role, leader, b, bt, es, snap, commit, left, wait, votes, next, mtch⟩ { x2 with oA := oA6, oc := oc6 }).toArray) rfl (by kernel_rfl) (by kernel_rfl) (by kernel_rfl) (fun _ _ _ h => h) (yieldsIf_load_mid rfl _ _ rfl g 0 rfl (raftL ⟨id, conf, term, vote, role, leader, b, bt, es, snap, commit, left, wait, votes, next, mtch⟩ { x2 with oA := oA6, oc := oc6 }) _ (fun W hW => Blk.range hW _ rfl) Tryz.underlying28 rfl infoR) hS ?_
          simp only [Act.put, List.getElem_toArray, List.getElem_cons_zero, List.getElem_cons_succ, List.setIfInBounds_toArray, List.set_cons_zero, List.set_cons_succ]
          refine wpAnyH_take (i := 4) (v := .pointer (some ⟨g, 0, none⟩)) rfl (by kernel_rfl) (by kernel_rfl) (by kernel_rfl) (fun _ _ _ h => h) (Or.inl ⟨by rfl, fun W hW => by go_simp⟩) hS ?_
          simp only [Act.put, List.getElem_toArray, List.getElem_cons_zero, List.getElem_cons_succ, List.setIfInBounds_toArray, List.set_cons_zero, List.set_cons_succ]
          refine wpAnyH_take (i := 5) (v := .pointer (some ⟨g, 0, none⟩)) rfl (by kernel_rfl) (by kernel_rfl) (by kernel_rfl) (fun _ _ _ h => h) (Or.inl ⟨by rfl, fun W hW => by go_simp⟩) hS ?_
          simp only [Act.put, List.getElem_toArray, List.getElem_cons_zero, List.getElem_cons_succ, List.setIfInBounds_toArray, List.set_cons_zero, List.set_cons_succ]
          refine wpAnyH_take (i := 6) (v := .pointer (some ⟨g, 16, none⟩)) rfl (by kernel_rfl) (by kernel_rfl) (by kernel_rfl) (fun _ _ _ h => h) (Or.inl ⟨by rfl, fun W hW => by go_simp⟩) hS ?_
          simp only [Act.put, List.getElem_toArray, List.getElem_cons_zero, List.getElem_cons_succ, List.setIfInBounds_toArray, List.set_cons_zero, List.set_cons_succ]
          refine wpAnyH_take (i := 7) (v := .slice { x2 with oA := oA6, oc := oc6 }.oA LV.length { x2 with oA := oA6, oc := oc6 }.oc) rfl (by kernel_rfl) (by kernel_rfl) (by kernel_rfl) (fun _ _ _ h => h) (Or.inl ⟨by rfl, fun W hW => by
            have h16 : W.cell? ⟨g, 16, none⟩ = some (.slice { x2 with oA := oA6, oc := oc6 }.oA LV.length { x2 with oA := oA6, oc := oc6 }.oc) := Blk.cells hW 16
            clear hW
            go_simp⟩) hS ?_
          simp only [Act.put, List.getElem_toArray, List.getElem_cons_zero, List.getElem_cons_succ, List.setIfInBounds_toArray, List.set_cons_zero, List.set_cons_succ]
          generalize w6.drew = WF at *
          refine wpAnyH_one (i := 8) (by kernel_rfl) rfl rfl ?_
          intro K hK
          simp only [List.getElem_toArray, List.getElem_cons_succ, List.getElem_cons_zero]
          refine wp_store_row _ _ _ rfl (w.heap.size + 1 + 1) (raftL ⟨id, conf, term, vote, role, leader, b, bt, es, snap, commit, left, wait, votes, next, mtch⟩ { x2 with oA := oA6, oc := oc6 }).toArray rfl rfl _ _ HZF.out infoR rfl (raftL_one _ _) (hK _ _ (Blk.rowFar hS hgne3 _) ?_)
          clear hK K
          simp only [Act.put, List.getElem_toArray, List.getElem_cons_zero, List.getElem_cons_succ, List.setIfInBounds_toArray, List.set_cons_zero, List.set_cons_succ]
          have hld := run_loadVarB (P := Tryz.prog) (HZF.out.rowSame (raftL ⟨id, conf, term, vote, role, leader, b, bt, es, snap, commit, left, wait, votes, next, mtch⟩ { x2 with oA := oA6, oc := oc6 }).toArray) 28 Tryz.underlying28 infoR
          have HRow := Lib.hid (Rest.row1 (NF.out.rest.lowCol) (lowCol_lt hzl.out) (raftL ⟨id, conf, term, vote, role, leader, b, bt, es, snap, commit, left, wait, votes, next, mtch⟩ { x2 with oA := oA6, oc := oc6 }).toArray)
          have HBR2 := Lib.hid (bel_row HBF.out hz2.out (raftL ⟨id, conf, term, vote, role, leader, b, bt, es, snap, commit, left, wait, votes, next, mtch⟩ { x2 with oA := oA6, oc := oc6 }).toArray)
          have hS := Blk.rowFar hS hgne3 (raftL ⟨id, conf, term, vote, role, leader, b, bt, es, snap, commit, left, wait, votes, next, mtch⟩ { x2 with oA := oA6, oc := oc6 }).toArray
          generalize WF.setRow (w.heap.size + 1 + 1) (raftL ⟨id, conf, term, vote, role, leader, b, bt, es, snap, commit, left, wait, votes, next, mtch⟩ { x2 with oA := oA6, oc := oc6 }).toArray = WG at *
          refine wpAnyH_one (i := 9) (by kernel_rfl) rfl rfl ?_
          intro K hK
          go_simp
          refine hK _ _ hS ?_
          clear hK K
          refine ⟨by kernel_rfl, ?_⟩
          go_wp2_with fail
          refine bodyPost_ret (v := .tuple #[raftV ⟨id, conf, term, vote, role, leader, b, bt, es, snap, commit, left, wait, votes, next, mtch⟩ { x2 with oA := oA6, oc := oc6 }, .slice { x2 with oA := oA6, oc := oc6 }.oA LV.length { x2 with oA := oA6, oc := oc6 }.oc]) (by simp [results, Tryz.results6, asAddr, hld]) rfl ?_
          rw [HQ6.out]
          exact ⟨⟨{ x2 with oA := oA6, oc := oc6 }, lowCol w1.heap.size col6, LV, rfl, HLV.out, HRow.out.low (by omega)⟩, HBR2.out⟩
        have hlt1 : decide (mt < term) = false := decide_eq_false hlt
        have heq : mt = term := by have := HGT.out; omega
        have HQS := Lib.hid (show q = Rf.same ⟨id, conf, term, vote, role, leader, b, bt, es, snap, commit, left, wait, votes, next, mtch⟩ ⟨mk, ms, md, mt, mi, ml, mc, my, me, mdt⟩ from by rw [HQ.out, if_neg hlt]; unfold Rf.newer; rw [if_neg (show ¬ term < mt from by have := HGT.out; omega)])
        have HLD : Hid (role = 2 → Rf.Lead ⟨id, conf, term, vote, role, leader, b, bt, es, snap, commit, left, wait, votes, next, mtch⟩) := Lib.hid (fun e => by
          rcases HRL.out with ⟨a, _⟩ | ⟨a, _⟩ | ⟨_, _, a⟩
          · simp only at a; omega
          · simp only at a; omega
          · exact a)
        clear HQ heq
        go_quiet (fail)
        have NS := Lib.hid (NS.out.bel (bel_drewN (Below.refl W4.heap.size W4) nq))
        have HBS := Lib.hid (bel_drewN HBS.out nq)
        have HMS := Lib.hid (HMS.out.drewN nq)
        have HZS := Lib.hid (HZS.out.drewN nq)
        have HMB : Hid (me.length ≤ cap ∧ RdB w1.heap.size (W4.drewN nq) A me) := Lib.hid ⟨HMB.out.1, HMB.out.2.low (bel_drewN (Below.refl _ _) _)⟩
        clear kN' kM'
        generalize W4.drewN nq = WS at *
        have kM : WS.cell? ⟨w.heap.size + 1, 0, none⟩ = some (.int .i64 mk) := HMS.out.cells 0
        by_cases k1 : mk = 1
        · subst k1
          have HQS := Lib.hid (show q = Rf.ask ⟨id, conf, term, vote, role, leader, b, bt, es, snap, commit, left, wait, votes, next, mtch⟩ ⟨1, ms, md, mt, mi, ml, mc, my, me, mdt⟩ from HQS.out)

          go_wp2_with (refine wpList_loadB rfl 30 (.tmp 3) rfl (w.heap.size + 1) rfl HMS.out Tryz.underlying30 infoMs ?_)
          refine (ask_calls NS (by simp) (Rf.es_le HBR.out) ⟨1, ms, md, mt, mi, ml, mc, my, me, mdt⟩ A cap).mono ?_
          rintro e w6 ⟨rfl, ⟨col6, x6, LV, _, _, hLV, hN6⟩, hb6⟩
          rw [List.nil_append] at hN6
          obtain ⟨s, hs⟩ : ∃ s, s = (Rf.ask ⟨id, conf, term, vote, role, leader, b, bt, es, snap, commit, left, wait, votes, next, mtch⟩ ⟨1, ms, md, mt, mi, ml, mc, my, me, mdt⟩).1 := ⟨_, rfl⟩
          obtain ⟨Ms, hMs⟩ : ∃ Ms, Ms = (Rf.ask ⟨id, conf, term, vote, role, leader, b, bt, es, snap, commit, left, wait, votes, next, mtch⟩ ⟨1, ms, md, mt, mi, ml, mc, my, me, mdt⟩).2 := ⟨_, rfl⟩
          rw [← hs] at hN6
          rw [← hMs] at hLV
          have HQ6 := Lib.hid (show q = (s, Ms) from by rw [HQS.out, hs, hMs])
          have HLV := Lib.hid hLV
          have N6 := Lib.hid hN6
          have HB6 := Lib.hid (bel_bel HBS.out hb6 (by omega))
          have HZ6 := Lib.hid (HZS.out.below hb6 (by omega))
          clear hs hMs hLV hN6 hb6 kM HQS
          go_wp2_with fail
          have NF := Lib.hid (N6.out.bel (bel_drew (Below.refl _ _)))
          have HBF := Lib.hid (bel_drew HB6.out)
          have HZF := Lib.hid (HZ6.out.bel (bel_drew (Below.refl _ _)))
          refine wp_region_heldD (S := fun W => Blk W g 53 (nodeC s x6 LV.length)) (by kernel_rfl) ?_
          have hS : Blk (w6.drew) g 53 (nodeC s x6 LV.length) := NF.out.blk
          refine wpAnyH_take (i := 0) (v := .pointer (some ⟨g, 0, none⟩)) rfl (by kernel_rfl) (by kernel_rfl) (by kernel_rfl) (fun _ _ _ h => h) (Or.inl ⟨by rfl, fun W hW => by go_simp⟩) hS ?_
          simp only [Act.put, List.getElem_toArray, List.getElem_cons_zero, List.getElem_cons_succ, List.setIfInBounds_toArray, List.set_cons_zero, List.set_cons_succ]
          refine wpAnyH_take (i := 1) (v := .pointer (some ⟨g, 0, none⟩)) rfl (by kernel_rfl) (by kernel_rfl) (by kernel_rfl) (fun _ _ _ h => h) (Or.inl ⟨by rfl, fun W hW => by go_simp⟩) hS ?_
          simp only [Act.put, List.getElem_toArray, List.getElem_cons_zero, List.getElem_cons_succ, List.setIfInBounds_toArray, List.set_cons_zero, List.set_cons_succ]
          refine wpAnyH_take (i := 2) (v := .pointer (some ⟨g, 0, none⟩)) rfl (by kernel_rfl) (by kernel_rfl) (by kernel_rfl) (fun _ _ _ h => h) (Or.inl ⟨by rfl, fun W hW => by go_simp⟩) hS ?_
          simp only [Act.put, List.getElem_toArray, List.getElem_cons_zero, List.getElem_cons_succ, List.setIfInBounds_toArray, List.set_cons_zero, List.set_cons_succ]
          refine wpAnyH_take (i := 3) (v := .agg (raftL s x6).toArray) rfl (by kernel_rfl) (by kernel_rfl) (by kernel_rfl) (fun _ _ _ h => h) (yieldsIf_load_mid rfl _ _ rfl g 0 rfl (raftL s x6) _ (fun W hW => Blk.range hW _ rfl) Tryz.underlying28 rfl infoR) hS ?_
          simp only [Act.put, List.getElem_toArray, List.getElem_cons_zero, List.getElem_cons_succ, List.setIfInBounds_toArray, List.set_cons_zero, List.set_cons_succ]
          refine wpAnyH_take (i := 4) (v := .pointer (some ⟨g, 0, none⟩)) rfl (by kernel_rfl) (by kernel_rfl) (by kernel_rfl) (fun _ _ _ h => h) (Or.inl ⟨by rfl, fun W hW => by go_simp⟩) hS ?_
          simp only [Act.put, List.getElem_toArray, List.getElem_cons_zero, List.getElem_cons_succ, List.setIfInBounds_toArray, List.set_cons_zero, List.set_cons_succ]
          refine wpAnyH_take (i := 5) (v := .pointer (some ⟨g, 0, none⟩)) rfl (by kernel_rfl) (by kernel_rfl) (by kernel_rfl) (fun _ _ _ h => h) (Or.inl ⟨by rfl, fun W hW => by go_simp⟩) hS ?_
          simp only [Act.put, List.getElem_toArray, List.getElem_cons_zero, List.getElem_cons_succ, List.setIfInBounds_toArray, List.set_cons_zero, List.set_cons_succ]
          refine wpAnyH_take (i := 6) (v := .pointer (some ⟨g, 16, none⟩)) rfl (by kernel_rfl) (by kernel_rfl) (by kernel_rfl) (fun _ _ _ h => h) (Or.inl ⟨by rfl, fun W hW => by go_simp⟩) hS ?_
          simp only [Act.put, List.getElem_toArray, List.getElem_cons_zero, List.getElem_cons_succ, List.setIfInBounds_toArray, List.set_cons_zero, List.set_cons_succ]
          refine wpAnyH_take (i := 7) (v := .slice x6.oA LV.length x6.oc) rfl (by kernel_rfl) (by kernel_rfl) (by kernel_rfl) (fun _ _ _ h => h) (Or.inl ⟨by rfl, fun W hW => by
            have h16 : W.cell? ⟨g, 16, none⟩ = some (.slice x6.oA LV.length x6.oc) := Blk.cells hW 16
            clear hW
            go_simp⟩) hS ?_
          simp only [Act.put, List.getElem_toArray, List.getElem_cons_zero, List.getElem_cons_succ, List.setIfInBounds_toArray, List.set_cons_zero, List.set_cons_succ]
          generalize w6.drew = WF at *
          refine wpAnyH_one (i := 8) (by kernel_rfl) rfl rfl ?_
          intro K hK
          simp only [List.getElem_toArray, List.getElem_cons_succ, List.getElem_cons_zero]
          refine wp_store_row _ _ _ rfl (w.heap.size + 1 + 1) (raftL s x6).toArray rfl rfl _ _ HZF.out infoR rfl (raftL_one _ _) (hK _ _ (Blk.rowFar hS hgne3 _) ?_)
          clear hK K
          simp only [Act.put, List.getElem_toArray, List.getElem_cons_zero, List.getElem_cons_succ, List.setIfInBounds_toArray, List.set_cons_zero, List.set_cons_succ]
          have hld := run_loadVarB (P := Tryz.prog) (HZF.out.rowSame (raftL s x6).toArray) 28 Tryz.underlying28 infoR
          have HRow := Lib.hid (Rest.row1 (NF.out.rest.lowCol) (lowCol_lt hzl.out) (raftL s x6).toArray)
          have HBR2 := Lib.hid (bel_row HBF.out hz2.out (raftL s x6).toArray)
          have hS := Blk.rowFar hS hgne3 (raftL s x6).toArray
          generalize WF.setRow (w.heap.size + 1 + 1) (raftL s x6).toArray = WG at *
          refine wpAnyH_one (i := 9) (by kernel_rfl) rfl rfl ?_
          intro K hK
          go_simp
          refine hK _ _ hS ?_
          clear hK K
          refine ⟨by kernel_rfl, ?_⟩
          go_wp2_with fail
          refine bodyPost_ret (v := .tuple #[raftV s x6, .slice x6.oA LV.length x6.oc]) (by simp [results, Tryz.results6, asAddr, hld]) rfl ?_
          rw [HQ6.out]
          exact ⟨⟨x6, lowCol w1.heap.size col6, LV, rfl, HLV.out, HRow.out.low (by omega)⟩, HBR2.out⟩
        have kb1 : (mk == 1) = false := by rw [beq_eq_false_iff_ne]; exact k1
        by_cases k2 : mk = 2
        · subst k2
          have HQS := Lib.hid (show q = Rf.grant ⟨id, conf, term, vote, role, leader, b, bt, es, snap, commit, left, wait, votes, next, mtch⟩ ⟨2, ms, md, mt, mi, ml, mc, my, me, mdt⟩ from HQS.out)

          go_wp2_with (refine wpList_loadB rfl 30 (.tmp 3) rfl (w.heap.size + 1) rfl HMS.out Tryz.underlying30 infoMs ?_)
          refine (grant_calls NS (by simp) HBR (Rf.votes_le HBR.out HRL.out) ⟨2, ms, md, mt, mi, ml, mc, my, me, mdt⟩ A cap).mono ?_
          rintro e w6 ⟨rfl, ⟨col6, x6, LV, _, _, hLV, hN6⟩, hb6⟩
          rw [List.nil_append] at hN6
          obtain ⟨s, hs⟩ : ∃ s, s = (Rf.grant ⟨id, conf, term, vote, role, leader, b, bt, es, snap, commit, left, wait, votes, next, mtch⟩ ⟨2, ms, md, mt, mi, ml, mc, my, me, mdt⟩).1 := ⟨_, rfl⟩
          obtain ⟨Ms, hMs⟩ : ∃ Ms, Ms = (Rf.grant ⟨id, conf, term, vote, role, leader, b, bt, es, snap, commit, left, wait, votes, next, mtch⟩ ⟨2, ms, md, mt, mi, ml, mc, my, me, mdt⟩).2 := ⟨_, rfl⟩
          rw [← hs] at hN6
          rw [← hMs] at hLV
          have HQ6 := Lib.hid (show q = (s, Ms) from by rw [HQS.out, hs, hMs])
          have HLV := Lib.hid hLV
          have N6 := Lib.hid hN6
          have HB6 := Lib.hid (bel_bel HBS.out hb6 (by omega))
          have HZ6 := Lib.hid (HZS.out.below hb6 (by omega))
          clear hs hMs hLV hN6 hb6 kM HQS
          go_wp2_with fail
          have NF := Lib.hid (N6.out.bel (bel_drew (Below.refl _ _)))
          have HBF := Lib.hid (bel_drew HB6.out)
          have HZF := Lib.hid (HZ6.out.bel (bel_drew (Below.refl _ _)))
          refine wp_region_heldD (S := fun W => Blk W g 53 (nodeC s x6 LV.length)) (by kernel_rfl) ?_
          have hS : Blk (w6.drew) g 53 (nodeC s x6 LV.length) := NF.out.blk
          refine wpAnyH_take (i := 0) (v := .pointer (some ⟨g, 0, none⟩)) rfl (by kernel_rfl) (by kernel_rfl) (by kernel_rfl) (fun _ _ _ h => h) (Or.inl ⟨by rfl, fun W hW => by go_simp⟩) hS ?_
          simp only [Act.put, List.getElem_toArray, List.getElem_cons_zero, List.getElem_cons_succ, List.setIfInBounds_toArray, List.set_cons_zero, List.set_cons_succ]
          refine wpAnyH_take (i := 1) (v := .pointer (some ⟨g, 0, none⟩)) rfl (by kernel_rfl) (by kernel_rfl) (by kernel_rfl) (fun _ _ _ h => h) (Or.inl ⟨by rfl, fun W hW => by go_simp⟩) hS ?_
          simp only [Act.put, List.getElem_toArray, List.getElem_cons_zero, List.getElem_cons_succ, List.setIfInBounds_toArray, List.set_cons_zero, List.set_cons_succ]
          refine wpAnyH_take (i := 2) (v := .pointer (some ⟨g, 0, none⟩)) rfl (by kernel_rfl) (by kernel_rfl) (by kernel_rfl) (fun _ _ _ h => h) (Or.inl ⟨by rfl, fun W hW => by go_simp⟩) hS ?_
          simp only [Act.put, List.getElem_toArray, List.getElem_cons_zero, List.getElem_cons_succ, List.setIfInBounds_toArray, List.set_cons_zero, List.set_cons_succ]
          refine wpAnyH_take (i := 3) (v := .agg (raftL s x6).toArray) rfl (by kernel_rfl) (by kernel_rfl) (by kernel_rfl) (fun _ _ _ h => h) (yieldsIf_load_mid rfl _ _ rfl g 0 rfl (raftL s x6) _ (fun W hW => Blk.range hW _ rfl) Tryz.underlying28 rfl infoR) hS ?_
          simp only [Act.put, List.getElem_toArray, List.getElem_cons_zero, List.getElem_cons_succ, List.setIfInBounds_toArray, List.set_cons_zero, List.set_cons_succ]
          refine wpAnyH_take (i := 4) (v := .pointer (some ⟨g, 0, none⟩)) rfl (by kernel_rfl) (by kernel_rfl) (by kernel_rfl) (fun _ _ _ h => h) (Or.inl ⟨by rfl, fun W hW => by go_simp⟩) hS ?_
          simp only [Act.put, List.getElem_toArray, List.getElem_cons_zero, List.getElem_cons_succ, List.setIfInBounds_toArray, List.set_cons_zero, List.set_cons_succ]
          refine wpAnyH_take (i := 5) (v := .pointer (some ⟨g, 0, none⟩)) rfl (by kernel_rfl) (by kernel_rfl) (by kernel_rfl) (fun _ _ _ h => h) (Or.inl ⟨by rfl, fun W hW => by go_simp⟩) hS ?_
          simp only [Act.put, List.getElem_toArray, List.getElem_cons_zero, List.getElem_cons_succ, List.setIfInBounds_toArray, List.set_cons_zero, List.set_cons_succ]
          refine wpAnyH_take (i := 6) (v := .pointer (some ⟨g, 16, none⟩)) rfl (by kernel_rfl) (by kernel_rfl) (by kernel_rfl) (fun _ _ _ h => h) (Or.inl ⟨by rfl, fun W hW => by go_simp⟩) hS ?_
          simp only [Act.put, List.getElem_toArray, List.getElem_cons_zero, List.getElem_cons_succ, List.setIfInBounds_toArray, List.set_cons_zero, List.set_cons_succ]
          refine wpAnyH_take (i := 7) (v := .slice x6.oA LV.length x6.oc) rfl (by kernel_rfl) (by kernel_rfl) (by kernel_rfl) (fun _ _ _ h => h) (Or.inl ⟨by rfl, fun W hW => by
            have h16 : W.cell? ⟨g, 16, none⟩ = some (.slice x6.oA LV.length x6.oc) := Blk.cells hW 16
            clear hW
            go_simp⟩) hS ?_
          simp only [Act.put, List.getElem_toArray, List.getElem_cons_zero, List.getElem_cons_succ, List.setIfInBounds_toArray, List.set_cons_zero, List.set_cons_succ]
          generalize w6.drew = WF at *
          refine wpAnyH_one (i := 8) (by kernel_rfl) rfl rfl ?_
          intro K hK
          simp only [List.getElem_toArray, List.getElem_cons_succ, List.getElem_cons_zero]
          refine wp_store_row _ _ _ rfl (w.heap.size + 1 + 1) (raftL s x6).toArray rfl rfl _ _ HZF.out infoR rfl (raftL_one _ _) (hK _ _ (Blk.rowFar hS hgne3 _) ?_)
          clear hK K
          simp only [Act.put, List.getElem_toArray, List.getElem_cons_zero, List.getElem_cons_succ, List.setIfInBounds_toArray, List.set_cons_zero, List.set_cons_succ]
          have hld := run_loadVarB (P := Tryz.prog) (HZF.out.rowSame (raftL s x6).toArray) 28 Tryz.underlying28 infoR
          have HRow := Lib.hid (Rest.row1 (NF.out.rest.lowCol) (lowCol_lt hzl.out) (raftL s x6).toArray)
          have HBR2 := Lib.hid (bel_row HBF.out hz2.out (raftL s x6).toArray)
          have hS := Blk.rowFar hS hgne3 (raftL s x6).toArray
          generalize WF.setRow (w.heap.size + 1 + 1) (raftL s x6).toArray = WG at *
          refine wpAnyH_one (i := 9) (by kernel_rfl) rfl rfl ?_
          intro K hK
          go_simp
          refine hK _ _ hS ?_
          clear hK K
          refine ⟨by kernel_rfl, ?_⟩
          go_wp2_with fail
          refine bodyPost_ret (v := .tuple #[raftV s x6, .slice x6.oA LV.length x6.oc]) (by simp [results, Tryz.results6, asAddr, hld]) rfl ?_
          rw [HQ6.out]
          exact ⟨⟨x6, lowCol w1.heap.size col6, LV, rfl, HLV.out, HRow.out.low (by omega)⟩, HBR2.out⟩
        have kb2 : (mk == 2) = false := by rw [beq_eq_false_iff_ne]; exact k2
        by_cases k4 : mk = 4
        · subst k4
          have HQS := Lib.hid (show q = Rf.ack ⟨id, conf, term, vote, role, leader, b, bt, es, snap, commit, left, wait, votes, next, mtch⟩ ⟨4, ms, md, mt, mi, ml, mc, my, me, mdt⟩ from HQS.out)

          go_wp2_with (refine wpList_loadB rfl 30 (.tmp 3) rfl (w.heap.size + 1) rfl HMS.out Tryz.underlying30 infoMs ?_)
          refine (ack_calls NS (by simp) HBR HLD ⟨4, ms, md, mt, mi, ml, mc, my, me, mdt⟩ HTK A cap).mono ?_
          rintro e w6 ⟨rfl, ⟨col6, x6, LV, _, _, hLV, hN6⟩, hb6⟩
          rw [List.nil_append] at hN6
          obtain ⟨s, hs⟩ : ∃ s, s = (Rf.ack ⟨id, conf, term, vote, role, leader, b, bt, es, snap, commit, left, wait, votes, next, mtch⟩ ⟨4, ms, md, mt, mi, ml, mc, my, me, mdt⟩).1 := ⟨_, rfl⟩
          obtain ⟨Ms, hMs⟩ : ∃ Ms, Ms = (Rf.ack ⟨id, conf, term, vote, role, leader, b, bt, es, snap, commit, left, wait, votes, next, mtch⟩ ⟨4, ms, md, mt, mi, ml, mc, my, me, mdt⟩).2 := ⟨_, rfl⟩
          rw [← hs] at hN6
          rw [← hMs] at hLV
          have HQ6 := Lib.hid (show q = (s, Ms) from by rw [HQS.out, hs, hMs])
          have HLV := Lib.hid hLV
          have N6 := Lib.hid hN6
          have HB6 := Lib.hid (bel_bel HBS.out hb6 (by omega))
          have HZ6 := Lib.hid (HZS.out.below hb6 (by omega))
          clear hs hMs hLV hN6 hb6 kM HQS
          go_wp2_with fail
          have NF := Lib.hid (N6.out.bel (bel_drew (Below.refl _ _)))
          have HBF := Lib.hid (bel_drew HB6.out)
          have HZF := Lib.hid (HZ6.out.bel (bel_drew (Below.refl _ _)))
          refine wp_region_heldD (S := fun W => Blk W g 53 (nodeC s x6 LV.length)) (by kernel_rfl) ?_
          have hS : Blk (w6.drew) g 53 (nodeC s x6 LV.length) := NF.out.blk
          refine wpAnyH_take (i := 0) (v := .pointer (some ⟨g, 0, none⟩)) rfl (by kernel_rfl) (by kernel_rfl) (by kernel_rfl) (fun _ _ _ h => h) (Or.inl ⟨by rfl, fun W hW => by go_simp⟩) hS ?_
          simp only [Act.put, List.getElem_toArray, List.getElem_cons_zero, List.getElem_cons_succ, List.setIfInBounds_toArray, List.set_cons_zero, List.set_cons_succ]
          refine wpAnyH_take (i := 1) (v := .pointer (some ⟨g, 0, none⟩)) rfl (by kernel_rfl) (by kernel_rfl) (by kernel_rfl) (fun _ _ _ h => h) (Or.inl ⟨by rfl, fun W hW => by go_simp⟩) hS ?_
          simp only [Act.put, List.getElem_toArray, List.getElem_cons_zero, List.getElem_cons_succ, List.setIfInBounds_toArray, List.set_cons_zero, List.set_cons_succ]
          refine wpAnyH_take (i := 2) (v := .pointer (some ⟨g, 0, none⟩)) rfl (by kernel_rfl) (by kernel_rfl) (by kernel_rfl) (fun _ _ _ h => h) (Or.inl ⟨by rfl, fun W hW => by go_simp⟩) hS ?_
          simp only [Act.put, List.getElem_toArray, List.getElem_cons_zero, List.getElem_cons_succ, List.setIfInBounds_toArray, List.set_cons_zero, List.set_cons_succ]
          refine wpAnyH_take (i := 3) (v := .agg (raftL s x6).toArray) rfl (by kernel_rfl) (by kernel_rfl) (by kernel_rfl) (fun _ _ _ h => h) (yieldsIf_load_mid rfl _ _ rfl g 0 rfl (raftL s x6) _ (fun W hW => Blk.range hW _ rfl) Tryz.underlying28 rfl infoR) hS ?_
          simp only [Act.put, List.getElem_toArray, List.getElem_cons_zero, List.getElem_cons_succ, List.setIfInBounds_toArray, List.set_cons_zero, List.set_cons_succ]
          refine wpAnyH_take (i := 4) (v := .pointer (some ⟨g, 0, none⟩)) rfl (by kernel_rfl) (by kernel_rfl) (by kernel_rfl) (fun _ _ _ h => h) (Or.inl ⟨by rfl, fun W hW => by go_simp⟩) hS ?_
          simp only [Act.put, List.getElem_toArray, List.getElem_cons_zero, List.getElem_cons_succ, List.setIfInBounds_toArray, List.set_cons_zero, List.set_cons_succ]
          refine wpAnyH_take (i := 5) (v := .pointer (some ⟨g, 0, none⟩)) rfl (by kernel_rfl) (by kernel_rfl) (by kernel_rfl) (fun _ _ _ h => h) (Or.inl ⟨by rfl, fun W hW => by go_simp⟩) hS ?_
          simp only [Act.put, List.getElem_toArray, List.getElem_cons_zero, List.getElem_cons_succ, List.setIfInBounds_toArray, List.set_cons_zero, List.set_cons_succ]
          refine wpAnyH_take (i := 6) (v := .pointer (some ⟨g, 16, none⟩)) rfl (by kernel_rfl) (by kernel_rfl) (by kernel_rfl) (fun _ _ _ h => h) (Or.inl ⟨by rfl, fun W hW => by go_simp⟩) hS ?_
          simp only [Act.put, List.getElem_toArray, List.getElem_cons_zero, List.getElem_cons_succ, List.setIfInBounds_toArray, List.set_cons_zero, List.set_cons_succ]
          refine wpAnyH_take (i := 7) (v := .slice x6.oA LV.length x6.oc) rfl (by kernel_rfl) (by kernel_rfl) (by kernel_rfl) (fun _ _ _ h => h) (Or.inl ⟨by rfl, fun W hW => by
            have h16 : W.cell? ⟨g, 16, none⟩ = some (.slice x6.oA LV.length x6.oc) := Blk.cells hW 16
            clear hW
            go_simp⟩) hS ?_
          simp only [Act.put, List.getElem_toArray, List.getElem_cons_zero, List.getElem_cons_succ, List.setIfInBounds_toArray, List.set_cons_zero, List.set_cons_succ]
          generalize w6.drew = WF at *
          refine wpAnyH_one (i := 8) (by kernel_rfl) rfl rfl ?_
          intro K hK
          simp only [List.getElem_toArray, List.getElem_cons_succ, List.getElem_cons_zero]
          refine wp_store_row _ _ _ rfl (w.heap.size + 1 + 1) (raftL s x6).toArray rfl rfl _ _ HZF.out infoR rfl (raftL_one _ _) (hK _ _ (Blk.rowFar hS hgne3 _) ?_)
          clear hK K
          simp only [Act.put, List.getElem_toArray, List.getElem_cons_zero, List.getElem_cons_succ, List.setIfInBounds_toArray, List.set_cons_zero, List.set_cons_succ]
          have hld := run_loadVarB (P := Tryz.prog) (HZF.out.rowSame (raftL s x6).toArray) 28 Tryz.underlying28 infoR
          have HRow := Lib.hid (Rest.row1 (NF.out.rest.lowCol) (lowCol_lt hzl.out) (raftL s x6).toArray)
          have HBR2 := Lib.hid (bel_row HBF.out hz2.out (raftL s x6).toArray)
          have hS := Blk.rowFar hS hgne3 (raftL s x6).toArray
          generalize WF.setRow (w.heap.size + 1 + 1) (raftL s x6).toArray = WG at *
          refine wpAnyH_one (i := 9) (by kernel_rfl) rfl rfl ?_
          intro K hK
          go_simp
          refine hK _ _ hS ?_
          clear hK K
          refine ⟨by kernel_rfl, ?_⟩
          go_wp2_with fail
          refine bodyPost_ret (v := .tuple #[raftV s x6, .slice x6.oA LV.length x6.oc]) (by simp [results, Tryz.results6, asAddr, hld]) rfl ?_
          rw [HQ6.out]
          exact ⟨⟨x6, lowCol w1.heap.size col6, LV, rfl, HLV.out, HRow.out.low (by omega)⟩, HBR2.out⟩
        have kb4 : (mk == 4) = false := by rw [beq_eq_false_iff_ne]; exact k4
        have kNS : WS.cell? ⟨g, 4, none⟩ = some (.int .i64 role) := NS.out.blk.cells 4
        have HQS := Lib.hid (show q = if role = 2 then (⟨id, conf, term, vote, role, leader, b, bt, es, snap, commit, left, wait, votes, next, mtch⟩, []) else if mk = 3 then Rf.take ⟨id, conf, term, vote, role, leader, b, bt, es, snap, commit, left, wait, votes, next, mtch⟩ ⟨mk, ms, md, mt, mi, ml, mc, my, me, mdt⟩ else Rf.bundle ⟨id, conf, term, vote, role, leader, b, bt, es, snap, commit, left, wait, votes, next, mtch⟩ ⟨mk, ms, md, mt, mi, ml, mc, my, me, mdt⟩ from by rw [HQS.out]; unfold Rf.same; simp only [if_neg k1, if_neg k2, if_neg k4])
        by_cases kr : role = 2
        · have HQS := Lib.hid (show q = (⟨id, conf, term, vote, role, leader, b, bt, es, snap, commit, left, wait, votes, next, mtch⟩, []) from by rw [HQS.out, if_pos kr])
          subst kr
          go_wp2_with fail
          have NF := Lib.hid (NS.out.bel (bel_drew (Below.refl _ _)))
          have HBF := Lib.hid (bel_drew HBS.out)
          have HZF := Lib.hid (HZS.out.bel (bel_drew (Below.refl _ _)))
          refine wp_region_heldD (S := fun W => Blk W g 53 (nodeC ⟨id, conf, term, vote, 2, leader, b, bt, es, snap, commit, left, wait, votes, next, mtch⟩ x2 ([] : List MsgV).length)) (by kernel_rfl) ?_
          have hS : Blk (WS.drew) g 53 (nodeC ⟨id, conf, term, vote, 2, leader, b, bt, es, snap, commit, left, wait, votes, next, mtch⟩ x2 ([] : List MsgV).length) := NF.out.blk
          refine wpAnyH_take (i := 0) (v := .pointer (some ⟨g, 0, none⟩)) rfl (by kernel_rfl) (by kernel_rfl) (by kernel_rfl) (fun _ _ _ h => h) (Or.inl ⟨by rfl, fun W hW => by go_simp⟩) hS ?_
          simp only [Act.put, List.getElem_toArray, List.getElem_cons_zero, List.getElem_cons_succ, List.setIfInBounds_toArray, List.set_cons_zero, List.set_cons_succ]
          refine wpAnyH_take (i := 1) (v := .pointer (some ⟨g, 0, none⟩)) rfl (by kernel_rfl) (by kernel_rfl) (by kernel_rfl) (fun _ _ _ h => h) (Or.inl ⟨by rfl, fun W hW => by go_simp⟩) hS ?_
          simp only [Act.put, List.getElem_toArray, List.getElem_cons_zero, List.getElem_cons_succ, List.setIfInBounds_toArray, List.set_cons_zero, List.set_cons_succ]
          refine wpAnyH_take (i := 2) (v := .pointer (some ⟨g, 0, none⟩)) rfl (by kernel_rfl) (by kernel_rfl) (by kernel_rfl) (fun _ _ _ h => h) (Or.inl ⟨by rfl, fun W hW => by go_simp⟩) hS ?_
          simp only [Act.put, List.getElem_toArray, List.getElem_cons_zero, List.getElem_cons_succ, List.setIfInBounds_toArray, List.set_cons_zero, List.set_cons_succ]
          refine wpAnyH_take (i := 3) (v := .agg (raftL ⟨id, conf, term, vote, 2, leader, b, bt, es, snap, commit, left, wait, votes, next, mtch⟩ x2).toArray) rfl (by kernel_rfl) (by kernel_rfl) (by kernel_rfl) (fun _ _ _ h => h) (yieldsIf_load_mid rfl _ _ rfl g 0 rfl (raftL ⟨id, conf, term, vote, 2, leader, b, bt, es, snap, commit, left, wait, votes, next, mtch⟩ x2) _ (fun W hW => Blk.range hW _ rfl) Tryz.underlying28 rfl infoR) hS ?_
          simp only [Act.put, List.getElem_toArray, List.getElem_cons_zero, List.getElem_cons_succ, List.setIfInBounds_toArray, List.set_cons_zero, List.set_cons_succ]
          refine wpAnyH_take (i := 4) (v := .pointer (some ⟨g, 0, none⟩)) rfl (by kernel_rfl) (by kernel_rfl) (by kernel_rfl) (fun _ _ _ h => h) (Or.inl ⟨by rfl, fun W hW => by go_simp⟩) hS ?_
          simp only [Act.put, List.getElem_toArray, List.getElem_cons_zero, List.getElem_cons_succ, List.setIfInBounds_toArray, List.set_cons_zero, List.set_cons_succ]
          refine wpAnyH_take (i := 5) (v := .pointer (some ⟨g, 0, none⟩)) rfl (by kernel_rfl) (by kernel_rfl) (by kernel_rfl) (fun _ _ _ h => h) (Or.inl ⟨by rfl, fun W hW => by go_simp⟩) hS ?_
          simp only [Act.put, List.getElem_toArray, List.getElem_cons_zero, List.getElem_cons_succ, List.setIfInBounds_toArray, List.set_cons_zero, List.set_cons_succ]
          refine wpAnyH_take (i := 6) (v := .pointer (some ⟨g, 16, none⟩)) rfl (by kernel_rfl) (by kernel_rfl) (by kernel_rfl) (fun _ _ _ h => h) (Or.inl ⟨by rfl, fun W hW => by go_simp⟩) hS ?_
          simp only [Act.put, List.getElem_toArray, List.getElem_cons_zero, List.getElem_cons_succ, List.setIfInBounds_toArray, List.set_cons_zero, List.set_cons_succ]
          refine wpAnyH_take (i := 7) (v := .slice x2.oA ([] : List MsgV).length x2.oc) rfl (by kernel_rfl) (by kernel_rfl) (by kernel_rfl) (fun _ _ _ h => h) (Or.inl ⟨by rfl, fun W hW => by
            have h16 : W.cell? ⟨g, 16, none⟩ = some (.slice x2.oA ([] : List MsgV).length x2.oc) := Blk.cells hW 16
            clear hW
            go_simp⟩) hS ?_
          simp only [Act.put, List.getElem_toArray, List.getElem_cons_zero, List.getElem_cons_succ, List.setIfInBounds_toArray, List.set_cons_zero, List.set_cons_succ]
          generalize WS.drew = WF at *
          refine wpAnyH_one (i := 8) (by kernel_rfl) rfl rfl ?_
          intro K hK
          simp only [List.getElem_toArray, List.getElem_cons_succ, List.getElem_cons_zero]
          refine wp_store_row _ _ _ rfl (w.heap.size + 1 + 1) (raftL ⟨id, conf, term, vote, 2, leader, b, bt, es, snap, commit, left, wait, votes, next, mtch⟩ x2).toArray rfl rfl _ _ HZF.out infoR rfl (raftL_one _ _) (hK _ _ (Blk.rowFar hS hgne3 _) ?_)
          clear hK K
          simp only [Act.put, List.getElem_toArray, List.getElem_cons_zero, List.getElem_cons_succ, List.setIfInBounds_toArray, List.set_cons_zero, List.set_cons_succ]
          have hld := run_loadVarB (P := Tryz.prog) (HZF.out.rowSame (raftL ⟨id, conf, term, vote, 2, leader, b, bt, es, snap, commit, left, wait, votes, next, mtch⟩ x2).toArray) 28 Tryz.underlying28 infoR
          have HRow := Lib.hid (Rest.row1 (NF.out.rest.lowCol) (lowCol_lt hzl.out) (raftL ⟨id, conf, term, vote, 2, leader, b, bt, es, snap, commit, left, wait, votes, next, mtch⟩ x2).toArray)
          have HBR2 := Lib.hid (bel_row HBF.out hz2.out (raftL ⟨id, conf, term, vote, 2, leader, b, bt, es, snap, commit, left, wait, votes, next, mtch⟩ x2).toArray)
          have hS := Blk.rowFar hS hgne3 (raftL ⟨id, conf, term, vote, 2, leader, b, bt, es, snap, commit, left, wait, votes, next, mtch⟩ x2).toArray
          generalize WF.setRow (w.heap.size + 1 + 1) (raftL ⟨id, conf, term, vote, 2, leader, b, bt, es, snap, commit, left, wait, votes, next, mtch⟩ x2).toArray = WG at *
          refine wpAnyH_one (i := 9) (by kernel_rfl) rfl rfl ?_
          intro K hK
          go_simp
          refine hK _ _ hS ?_
          clear hK K
          refine ⟨by kernel_rfl, ?_⟩
          go_wp2_with fail
          refine bodyPost_ret (v := .tuple #[raftV ⟨id, conf, term, vote, 2, leader, b, bt, es, snap, commit, left, wait, votes, next, mtch⟩ x2, .slice x2.oA ([] : List MsgV).length x2.oc]) (by simp [results, Tryz.results6, asAddr, hld]) rfl ?_
          rw [HQS.out]
          exact ⟨⟨x2, lowCol w1.heap.size col, ([] : List MsgV), rfl, rfl, HRow.out.low (by omega)⟩, HBR2.out⟩
        have krb : (role == 2) = false := by rw [beq_eq_false_iff_ne]; exact kr
        have HQS := Lib.hid (show q = if mk = 3 then Rf.take ⟨id, conf, term, vote, role, leader, b, bt, es, snap, commit, left, wait, votes, next, mtch⟩ ⟨mk, ms, md, mt, mi, ml, mc, my, me, mdt⟩ else Rf.bundle ⟨id, conf, term, vote, role, leader, b, bt, es, snap, commit, left, wait, votes, next, mtch⟩ ⟨mk, ms, md, mt, mi, ml, mc, my, me, mdt⟩ from by rw [HQS.out, if_neg kr])
        by_cases k3 : mk = 3
        · have HQT := Lib.hid (show q = Rf.take ⟨id, conf, term, vote, role, leader, b, bt, es, snap, commit, left, wait, votes, next, mtch⟩ ⟨mk, ms, md, mt, mi, ml, mc, my, me, mdt⟩ from by rw [HQS.out, if_pos k3])
          subst k3

          go_wp2_with (refine wpList_loadB rfl 30 (.tmp 3) rfl (w.heap.size + 1) rfl HMS.out Tryz.underlying30 infoMs ?_)
          refine (take_calls NS (by simp) HBR ⟨3, ms, md, mt, mi, ml, mc, my, me, mdt⟩ HTK A cap HMB).mono ?_
          rintro e w6 ⟨rfl, ⟨col6, x6, LV, _, _, hLV, hN6⟩, hb6⟩
          rw [List.nil_append] at hN6
          obtain ⟨s, hs⟩ : ∃ s, s = (Rf.take ⟨id, conf, term, vote, role, leader, b, bt, es, snap, commit, left, wait, votes, next, mtch⟩ ⟨3, ms, md, mt, mi, ml, mc, my, me, mdt⟩).1 := ⟨_, rfl⟩
          obtain ⟨Ms, hMs⟩ : ∃ Ms, Ms = (Rf.take ⟨id, conf, term, vote, role, leader, b, bt, es, snap, commit, left, wait, votes, next, mtch⟩ ⟨3, ms, md, mt, mi, ml, mc, my, me, mdt⟩).2 := ⟨_, rfl⟩
          rw [← hs] at hN6
          rw [← hMs] at hLV
          have HQ6 := Lib.hid (show q = (s, Ms) from by rw [HQT.out, hs, hMs])
          have HLV := Lib.hid hLV
          have N6 := Lib.hid hN6
          have HB6 := Lib.hid (bel_bel HBS.out hb6 (by omega))
          have HZ6 := Lib.hid (HZS.out.below hb6 (by omega))
          clear kNS hs hMs hLV hN6 hb6 kM HQT
          go_wp2_with fail
          have NF := Lib.hid (N6.out.bel (bel_drew (Below.refl _ _)))
          have HBF := Lib.hid (bel_drew HB6.out)
          have HZF := Lib.hid (HZ6.out.bel (bel_drew (Below.refl _ _)))
          refine wp_region_heldD (S := fun W => Blk W g 53 (nodeC s x6 LV.length)) (by kernel_rfl) ?_
          have hS : Blk (w6.drew) g 53 (nodeC s x6 LV.length) := NF.out.blk
          refine wpAnyH_take (i := 0) (v := .pointer (some ⟨g, 0, none⟩)) rfl (by kernel_rfl) (by kernel_rfl) (by kernel_rfl) (fun _ _ _ h => h) (Or.inl ⟨by rfl, fun W hW => by go_simp⟩) hS ?_
          simp only [Act.put, List.getElem_toArray, List.getElem_cons_zero, List.getElem_cons_succ, List.setIfInBounds_toArray, List.set_cons_zero, List.set_cons_succ]
          refine wpAnyH_take (i := 1) (v := .pointer (some ⟨g, 0, none⟩)) rfl (by kernel_rfl) (by kernel_rfl) (by kernel_rfl) (fun _ _ _ h => h) (Or.inl ⟨by rfl, fun W hW => by go_simp⟩) hS ?_
          simp only [Act.put, List.getElem_toArray, List.getElem_cons_zero, List.getElem_cons_succ, List.setIfInBounds_toArray, List.set_cons_zero, List.set_cons_succ]
          refine wpAnyH_take (i := 2) (v := .pointer (some ⟨g, 0, none⟩)) rfl (by kernel_rfl) (by kernel_rfl) (by kernel_rfl) (fun _ _ _ h => h) (Or.inl ⟨by rfl, fun W hW => by go_simp⟩) hS ?_
          simp only [Act.put, List.getElem_toArray, List.getElem_cons_zero, List.getElem_cons_succ, List.setIfInBounds_toArray, List.set_cons_zero, List.set_cons_succ]
          refine wpAnyH_take (i := 3) (v := .agg (raftL s x6).toArray) rfl (by kernel_rfl) (by kernel_rfl) (by kernel_rfl) (fun _ _ _ h => h) (yieldsIf_load_mid rfl _ _ rfl g 0 rfl (raftL s x6) _ (fun W hW => Blk.range hW _ rfl) Tryz.underlying28 rfl infoR) hS ?_
          simp only [Act.put, List.getElem_toArray, List.getElem_cons_zero, List.getElem_cons_succ, List.setIfInBounds_toArray, List.set_cons_zero, List.set_cons_succ]
          refine wpAnyH_take (i := 4) (v := .pointer (some ⟨g, 0, none⟩)) rfl (by kernel_rfl) (by kernel_rfl) (by kernel_rfl) (fun _ _ _ h => h) (Or.inl ⟨by rfl, fun W hW => by go_simp⟩) hS ?_
          simp only [Act.put, List.getElem_toArray, List.getElem_cons_zero, List.getElem_cons_succ, List.setIfInBounds_toArray, List.set_cons_zero, List.set_cons_succ]
          refine wpAnyH_take (i := 5) (v := .pointer (some ⟨g, 0, none⟩)) rfl (by kernel_rfl) (by kernel_rfl) (by kernel_rfl) (fun _ _ _ h => h) (Or.inl ⟨by rfl, fun W hW => by go_simp⟩) hS ?_
          simp only [Act.put, List.getElem_toArray, List.getElem_cons_zero, List.getElem_cons_succ, List.setIfInBounds_toArray, List.set_cons_zero, List.set_cons_succ]
          refine wpAnyH_take (i := 6) (v := .pointer (some ⟨g, 16, none⟩)) rfl (by kernel_rfl) (by kernel_rfl) (by kernel_rfl) (fun _ _ _ h => h) (Or.inl ⟨by rfl, fun W hW => by go_simp⟩) hS ?_
          simp only [Act.put, List.getElem_toArray, List.getElem_cons_zero, List.getElem_cons_succ, List.setIfInBounds_toArray, List.set_cons_zero, List.set_cons_succ]
          refine wpAnyH_take (i := 7) (v := .slice x6.oA LV.length x6.oc) rfl (by kernel_rfl) (by kernel_rfl) (by kernel_rfl) (fun _ _ _ h => h) (Or.inl ⟨by rfl, fun W hW => by
            have h16 : W.cell? ⟨g, 16, none⟩ = some (.slice x6.oA LV.length x6.oc) := Blk.cells hW 16
            clear hW
            go_simp⟩) hS ?_
          simp only [Act.put, List.getElem_toArray, List.getElem_cons_zero, List.getElem_cons_succ, List.setIfInBounds_toArray, List.set_cons_zero, List.set_cons_succ]
          generalize w6.drew = WF at *
          refine wpAnyH_one (i := 8) (by kernel_rfl) rfl rfl ?_
          intro K hK
          simp only [List.getElem_toArray, List.getElem_cons_succ, List.getElem_cons_zero]
          refine wp_store_row _ _ _ rfl (w.heap.size + 1 + 1) (raftL s x6).toArray rfl rfl _ _ HZF.out infoR rfl (raftL_one _ _) (hK _ _ (Blk.rowFar hS hgne3 _) ?_)
          clear hK K
          simp only [Act.put, List.getElem_toArray, List.getElem_cons_zero, List.getElem_cons_succ, List.setIfInBounds_toArray, List.set_cons_zero, List.set_cons_succ]
          have hld := run_loadVarB (P := Tryz.prog) (HZF.out.rowSame (raftL s x6).toArray) 28 Tryz.underlying28 infoR
          have HRow := Lib.hid (Rest.row1 (NF.out.rest.lowCol) (lowCol_lt hzl.out) (raftL s x6).toArray)
          have HBR2 := Lib.hid (bel_row HBF.out hz2.out (raftL s x6).toArray)
          have hS := Blk.rowFar hS hgne3 (raftL s x6).toArray
          generalize WF.setRow (w.heap.size + 1 + 1) (raftL s x6).toArray = WG at *
          refine wpAnyH_one (i := 9) (by kernel_rfl) rfl rfl ?_
          intro K hK
          go_simp
          refine hK _ _ hS ?_
          clear hK K
          refine ⟨by kernel_rfl, ?_⟩
          go_wp2_with fail
          refine bodyPost_ret (v := .tuple #[raftV s x6, .slice x6.oA LV.length x6.oc]) (by simp [results, Tryz.results6, asAddr, hld]) rfl ?_
          rw [HQ6.out]
          exact ⟨⟨x6, lowCol w1.heap.size col6, LV, rfl, HLV.out, HRow.out.low (by omega)⟩, HBR2.out⟩
        have k5 : mk = 5 := by have h0 := HTK.out.k0; have h1 := HTK.out.k1; simp only at h0 h1; omega
        have kb3 : (mk == 3) = false := by rw [beq_eq_false_iff_ne]; exact k3
        have HQS := Lib.hid (show q = Rf.bundle ⟨id, conf, term, vote, role, leader, b, bt, es, snap, commit, left, wait, votes, next, mtch⟩ ⟨mk, ms, md, mt, mi, ml, mc, my, me, mdt⟩ from by rw [HQS.out, if_neg k3])
        subst k5

        go_wp2_with (refine wpList_loadB rfl 30 (.tmp 3) rfl (w.heap.size + 1) rfl HMS.out Tryz.underlying30 infoMs ?_)
        refine (bundle_calls NS (by simp) HBR ⟨5, ms, md, mt, mi, ml, mc, my, me, mdt⟩ HTK A cap).mono ?_
        rintro e w6 ⟨rfl, ⟨col6, x6, LV, _, _, hLV, hN6⟩, hb6⟩
        rw [List.nil_append] at hN6
        obtain ⟨s, hs⟩ : ∃ s, s = (Rf.bundle ⟨id, conf, term, vote, role, leader, b, bt, es, snap, commit, left, wait, votes, next, mtch⟩ ⟨5, ms, md, mt, mi, ml, mc, my, me, mdt⟩).1 := ⟨_, rfl⟩
        obtain ⟨Ms, hMs⟩ : ∃ Ms, Ms = (Rf.bundle ⟨id, conf, term, vote, role, leader, b, bt, es, snap, commit, left, wait, votes, next, mtch⟩ ⟨5, ms, md, mt, mi, ml, mc, my, me, mdt⟩).2 := ⟨_, rfl⟩
        rw [← hs] at hN6
        rw [← hMs] at hLV
        have HQ6 := Lib.hid (show q = (s, Ms) from by rw [HQS.out, hs, hMs])
        have HLV := Lib.hid hLV
        have N6 := Lib.hid hN6
        have HB6 := Lib.hid (bel_bel HBS.out hb6 (by omega))
        have HZ6 := Lib.hid (HZS.out.below hb6 (by omega))
        clear kNS hs hMs hLV hN6 hb6 kM HQS
        go_wp2_with fail
        have NF := Lib.hid (N6.out.bel (bel_drew (Below.refl _ _)))
        have HBF := Lib.hid (bel_drew HB6.out)
        have HZF := Lib.hid (HZ6.out.bel (bel_drew (Below.refl _ _)))
        refine wp_region_heldD (S := fun W => Blk W g 53 (nodeC s x6 LV.length)) (by kernel_rfl) ?_
        have hS : Blk (w6.drew) g 53 (nodeC s x6 LV.length) := NF.out.blk
        refine wpAnyH_take (i := 0) (v := .pointer (some ⟨g, 0, none⟩)) rfl (by kernel_rfl) (by kernel_rfl) (by kernel_rfl) (fun _ _ _ h => h) (Or.inl ⟨by rfl, fun W hW => by go_simp⟩) hS ?_
        simp only [Act.put, List.getElem_toArray, List.getElem_cons_zero, List.getElem_cons_succ, List.setIfInBounds_toArray, List.set_cons_zero, List.set_cons_succ]
        refine wpAnyH_take (i := 1) (v := .pointer (some ⟨g, 0, none⟩)) rfl (by kernel_rfl) (by kernel_rfl) (by kernel_rfl) (fun _ _ _ h => h) (Or.inl ⟨by rfl, fun W hW => by go_simp⟩) hS ?_
        simp only [Act.put, List.getElem_toArray, List.getElem_cons_zero, List.getElem_cons_succ, List.setIfInBounds_toArray, List.set_cons_zero, List.set_cons_succ]
        refine wpAnyH_take (i := 2) (v := .pointer (some ⟨g, 0, none⟩)) rfl (by kernel_rfl) (by kernel_rfl) (by kernel_rfl) (fun _ _ _ h => h) (Or.inl ⟨by rfl, fun W hW => by go_simp⟩) hS ?_
        simp only [Act.put, List.getElem_toArray, List.getElem_cons_zero, List.getElem_cons_succ, List.setIfInBounds_toArray, List.set_cons_zero, List.set_cons_succ]
        refine wpAnyH_take (i := 3) (v := .agg (raftL s x6).toArray) rfl (by kernel_rfl) (by kernel_rfl) (by kernel_rfl) (fun _ _ _ h => h) (yieldsIf_load_mid rfl _ _ rfl g 0 rfl (raftL s x6) _ (fun W hW => Blk.range hW _ rfl) Tryz.underlying28 rfl infoR) hS ?_
        simp only [Act.put, List.getElem_toArray, List.getElem_cons_zero, List.getElem_cons_succ, List.setIfInBounds_toArray, List.set_cons_zero, List.set_cons_succ]
        refine wpAnyH_take (i := 4) (v := .pointer (some ⟨g, 0, none⟩)) rfl (by kernel_rfl) (by kernel_rfl) (by kernel_rfl) (fun _ _ _ h => h) (Or.inl ⟨by rfl, fun W hW => by go_simp⟩) hS ?_
        simp only [Act.put, List.getElem_toArray, List.getElem_cons_zero, List.getElem_cons_succ, List.setIfInBounds_toArray, List.set_cons_zero, List.set_cons_succ]
        refine wpAnyH_take (i := 5) (v := .pointer (some ⟨g, 0, none⟩)) rfl (by kernel_rfl) (by kernel_rfl) (by kernel_rfl) (fun _ _ _ h => h) (Or.inl ⟨by rfl, fun W hW => by go_simp⟩) hS ?_
        simp only [Act.put, List.getElem_toArray, List.getElem_cons_zero, List.getElem_cons_succ, List.setIfInBounds_toArray, List.set_cons_zero, List.set_cons_succ]
        refine wpAnyH_take (i := 6) (v := .pointer (some ⟨g, 16, none⟩)) rfl (by kernel_rfl) (by kernel_rfl) (by kernel_rfl) (fun _ _ _ h => h) (Or.inl ⟨by rfl, fun W hW => by go_simp⟩) hS ?_
        simp only [Act.put, List.getElem_toArray, List.getElem_cons_zero, List.getElem_cons_succ, List.setIfInBounds_toArray, List.set_cons_zero, List.set_cons_succ]
        refine wpAnyH_take (i := 7) (v := .slice x6.oA LV.length x6.oc) rfl (by kernel_rfl) (by kernel_rfl) (by kernel_rfl) (fun _ _ _ h => h) (Or.inl ⟨by rfl, fun W hW => by
          have h16 : W.cell? ⟨g, 16, none⟩ = some (.slice x6.oA LV.length x6.oc) := Blk.cells hW 16
          clear hW
          go_simp⟩) hS ?_
        simp only [Act.put, List.getElem_toArray, List.getElem_cons_zero, List.getElem_cons_succ, List.setIfInBounds_toArray, List.set_cons_zero, List.set_cons_succ]
        generalize w6.drew = WF at *
        refine wpAnyH_one (i := 8) (by kernel_rfl) rfl rfl ?_
        intro K hK
        simp only [List.getElem_toArray, List.getElem_cons_succ, List.getElem_cons_zero]
        refine wp_store_row _ _ _ rfl (w.heap.size + 1 + 1) (raftL s x6).toArray rfl rfl _ _ HZF.out infoR rfl (raftL_one _ _) (hK _ _ (Blk.rowFar hS hgne3 _) ?_)
        clear hK K
        simp only [Act.put, List.getElem_toArray, List.getElem_cons_zero, List.getElem_cons_succ, List.setIfInBounds_toArray, List.set_cons_zero, List.set_cons_succ]
        have hld := run_loadVarB (P := Tryz.prog) (HZF.out.rowSame (raftL s x6).toArray) 28 Tryz.underlying28 infoR
        have HRow := Lib.hid (Rest.row1 (NF.out.rest.lowCol) (lowCol_lt hzl.out) (raftL s x6).toArray)
        have HBR2 := Lib.hid (bel_row HBF.out hz2.out (raftL s x6).toArray)
        have hS := Blk.rowFar hS hgne3 (raftL s x6).toArray
        generalize WF.setRow (w.heap.size + 1 + 1) (raftL s x6).toArray = WG at *
        refine wpAnyH_one (i := 9) (by kernel_rfl) rfl rfl ?_
        intro K hK
        go_simp
        refine hK _ _ hS ?_
        clear hK K
        refine ⟨by kernel_rfl, ?_⟩
        go_wp2_with fail
        refine bodyPost_ret (v := .tuple #[raftV s x6, .slice x6.oA LV.length x6.oc]) (by simp [results, Tryz.results6, asAddr, hld]) rfl ?_
        rw [HQ6.out]
        exact ⟨⟨x6, lowCol w1.heap.size col6, LV, rfl, HLV.out, HRow.out.low (by omega)⟩, HBR2.out⟩
end Go.Proofs.YtdladjgdhnkkcaaGreat
