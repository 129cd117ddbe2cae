
/-
  Contract: one of the things that may come to a node.
  Conditions: the node and the message can be read.
-/
import Derived.Test.YtdladjgdhnkkcaaZRf28
namespace Go.Proofs.Ytdladjgdhnkkcaa
open Go.RowKit
set_option linter.unusedVariables false
set_option linter.unusedSimpArgs false
set_option maxHeartbeats 20000000

/-- what comes to a node, as a value -/
abbrev doV (kd dr : Int) (m : Msg) (A : Option Addr) (cap : Nat) (s : ByteArray) (to : Int) : Value := .agg #[.int .i64 kd, .int .i64 dr, .int .i64 m.kind, .int .i64 m.src, .int .i64 m.dst, .int .i64 m.term, .int .i64 m.index, .int .i64 m.lterm, .int .i64 m.commit, .bool m.yes, .slice A m.es.length cap, .string m.data, .string s, .int .i64 to]
/-- what becomes of the node -/
def Rf.does (r : Nod) (kd dr : Int) (m : Msg) (s : ByteArray) (to : Int) : Nod :=
  if kd = 0 then (Rf.tick r dr).1 else if kd = 1 then (Rf.handle r { m with dst := r.id }).1 else if kd = 2 then Rf.propose r s else if kd = 3 then Rf.compact r to s else Rf.restart r
/-- a node in new memory -/
def AnsN (w : World) (r : Nod) (e : Ending) (w' : World) : Prop :=
  (∃ x col LV, e = .returned (raftV r x) ∧ Rest w.heap.size col r x LV w') ∧ Below w.heap.size w w'
set_option maxRecDepth 100000 in
theorem does_calls (r : Nod) (x : NdX) (w : World) (h : Hid (RdR w r x)) (kd dr : Int) (m : Msg) (A : Option Addr) (cap : Nat) (s : ByteArray) (to : Int) (hm : Hid (m.es.length ≤ cap ∧ RdE w A m.es)) (hml : m.es.length ≤ 9223372036854775807)
    (hd0 : -9223372036854775808 ≤ dr) (hd1 : dr ≤ 9223372036854775807) (hs : s.size ≤ 9223372036854775807) :
    Calls Try.prog 38 #[raftV r x, doV kd dr m A cap s to] w (AnsN w (Rf.does r kd dr m s to)) := by
  obtain ⟨q, hq⟩ : ∃ q, q = Rf.does r kd dr m s to := ⟨_, rfl⟩
  rw [← hq]
  have HQ := Lib.hid hq
  unfold Rf.does at HQ
  clear hq
  have HT := Lib.hid (fun (W : World) (hb : Below w.heap.size w W) => tick_calls r x W (Lib.hid (h.out.bel hb)) dr hd0 hd1)
  have HH := Lib.hid (fun (W : World) (hb : Below w.heap.size w W) => handle_calls r x W (Lib.hid (h.out.bel hb)) { m with dst := r.id } A cap (Lib.hid ⟨hm.out.1, hm.out.2.bel hb⟩) hml)
  have HP := Lib.hid (fun (W : World) (hb : Below w.heap.size w W) => propose_calls r x W (Lib.hid (h.out.bel hb)) s hs)
  have HC := Lib.hid (fun (W : World) (hb : Below w.heap.size w W) => compact_calls r x W (Lib.hid (h.out.bel hb)) to s hs)
  have HS := Lib.hid (fun (W : World) (hb : Below w.heap.size w W) => restart_calls r x W (Lib.hid (h.out.bel hb)))
  have HB1 := Lib.hid (bel_new (bel_new (bel_new (Below.refl w.heap.size w) (.cells #[.int .i64 r.id, .slice x.cA r.conf.length x.cc, .int .i64 r.term, .int .i64 r.vote, .int .i64 r.role, .int .i64 r.leader, .int .i64 r.b, .int .i64 r.bt, .slice x.eA r.es.length x.ec, .string r.snap, .int .i64 r.commit, .int .i64 r.left, .int .i64 r.wait, .slice x.vA r.votes.length x.vc, .slice x.nA r.next.length x.nc, .slice x.mA r.mtch.length x.mc] 48)) (.cells #[.int .i64 kd, .int .i64 dr, .int .i64 m.kind, .int .i64 m.src, .int .i64 m.dst, .int .i64 m.term, .int .i64 m.index, .int .i64 m.lterm, .int .i64 m.commit, .bool m.yes, .slice A m.es.length cap, .string m.data, .string s, .int .i64 to] 55)) (.cells #[.int .i64 0, .slice none 0 0, .int .i64 0, .int .i64 0, .int .i64 0, .int .i64 0, .int .i64 0, .int .i64 0, .slice none 0 0, .string ⟨#[]⟩, .int .i64 0, .int .i64 0, .int .i64 0, .slice none 0 0, .slice none 0 0, .slice none 0 0] 48))
  have HR1 := Lib.hid (((Blk.new w 48 #[.int .i64 r.id, .slice x.cA r.conf.length x.cc, .int .i64 r.term, .int .i64 r.vote, .int .i64 r.role, .int .i64 r.leader, .int .i64 r.b, .int .i64 r.bt, .slice x.eA r.es.length x.ec, .string r.snap, .int .i64 r.commit, .int .i64 r.left, .int .i64 r.wait, .slice x.vA r.votes.length x.vc, .slice x.nA r.next.length x.nc, .slice x.mA r.mtch.length x.mc]).alloc (.cells #[.int .i64 kd, .int .i64 dr, .int .i64 m.kind, .int .i64 m.src, .int .i64 m.dst, .int .i64 m.term, .int .i64 m.index, .int .i64 m.lterm, .int .i64 m.commit, .bool m.yes, .slice A m.es.length cap, .string m.data, .string s, .int .i64 to] 55)).alloc (.cells #[.int .i64 0, .slice none 0 0, .int .i64 0, .int .i64 0, .int .i64 0, .int .i64 0, .int .i64 0, .int .i64 0, .slice none 0 0, .string ⟨#[]⟩, .int .i64 0, .int .i64 0, .int .i64 0, .slice none 0 0, .slice none 0 0, .slice none 0 0] 48))
  have HD1 := Lib.hid ((Blk.new2 w (.cells #[.int .i64 r.id, .slice x.cA r.conf.length x.cc, .int .i64 r.term, .int .i64 r.vote, .int .i64 r.role, .int .i64 r.leader, .int .i64 r.b, .int .i64 r.bt, .slice x.eA r.es.length x.ec, .string r.snap, .int .i64 r.commit, .int .i64 r.left, .int .i64 r.wait, .slice x.vA r.votes.length x.vc, .slice x.nA r.next.length x.nc, .slice x.mA r.mtch.length x.mc] 48) 55 #[.int .i64 kd, .int .i64 dr, .int .i64 m.kind, .int .i64 m.src, .int .i64 m.dst, .int .i64 m.term, .int .i64 m.index, .int .i64 m.lterm, .int .i64 m.commit, .bool m.yes, .slice A m.es.length cap, .string m.data, .string s, .int .i64 to]).alloc (.cells #[.int .i64 0, .slice none 0 0, .int .i64 0, .int .i64 0, .int .i64 0, .int .i64 0, .int .i64 0, .int .i64 0, .slice none 0 0, .string ⟨#[]⟩, .int .i64 0, .int .i64 0, .int .i64 0, .slice none 0 0, .slice none 0 0, .slice none 0 0] 48))
  have HZ1 := Lib.hid (Blk.new3 w (.cells #[.int .i64 r.id, .slice x.cA r.conf.length x.cc, .int .i64 r.term, .int .i64 r.vote, .int .i64 r.role, .int .i64 r.leader, .int .i64 r.b, .int .i64 r.bt, .slice x.eA r.es.length x.ec, .string r.snap, .int .i64 r.commit, .int .i64 r.left, .int .i64 r.wait, .slice x.vA r.votes.length x.vc, .slice x.nA r.next.length x.nc, .slice x.mA r.mtch.length x.mc] 48) (.cells #[.int .i64 kd, .int .i64 dr, .int .i64 m.kind, .int .i64 m.src, .int .i64 m.dst, .int .i64 m.term, .int .i64 m.index, .int .i64 m.lterm, .int .i64 m.commit, .bool m.yes, .slice A m.es.length cap, .string m.data, .string s, .int .i64 to] 55) 48 #[.int .i64 0, .slice none 0 0, .int .i64 0, .int .i64 0, .int .i64 0, .int .i64 0, .int .i64 0, .int .i64 0, .slice none 0 0, .string ⟨#[]⟩, .int .i64 0, .int .i64 0, .int .i64 0, .slice none 0 0, .slice none 0 0, .slice none 0 0])
  have hs1 : (((w.alloc (.cells #[.int .i64 r.id, .slice x.cA r.conf.length x.cc, .int .i64 r.term, .int .i64 r.vote, .int .i64 r.role, .int .i64 r.leader, .int .i64 r.b, .int .i64 r.bt, .slice x.eA r.es.length x.ec, .string r.snap, .int .i64 r.commit, .int .i64 r.left, .int .i64 r.wait, .slice x.vA r.votes.length x.vc, .slice x.nA r.next.length x.nc, .slice x.mA r.mtch.length x.mc] 48)).alloc (.cells #[.int .i64 kd, .int .i64 dr, .int .i64 m.kind, .int .i64 m.src, .int .i64 m.dst, .int .i64 m.term, .int .i64 m.index, .int .i64 m.lterm, .int .i64 m.commit, .bool m.yes, .slice A m.es.length cap, .string m.data, .string s, .int .i64 to] 55)).alloc (.cells #[.int .i64 0, .slice none 0 0, .int .i64 0, .int .i64 0, .int .i64 0, .int .i64 0, .int .i64 0, .int .i64 0, .slice none 0 0, .string ⟨#[]⟩, .int .i64 0, .int .i64 0, .int .i64 0, .slice none 0 0, .slice none 0 0, .slice none 0 0] 48)).heap.size = w.heap.size + 3 := by rw [size_alloc, size_alloc, size_alloc]
  have HS1 := Lib.hid hs1
  clear hs1
  go_enter Try.func38, Try.ntmps38
  go_upto_region 1 with (fail)
  generalize ((w.alloc (.cells #[.int .i64 r.id, .slice x.cA r.conf.length x.cc, .int .i64 r.term, .int .i64 r.vote, .int .i64 r.role, .int .i64 r.leader, .int .i64 r.b, .int .i64 r.bt, .slice x.eA r.es.length x.ec, .string r.snap, .int .i64 r.commit, .int .i64 r.left, .int .i64 r.wait, .slice x.vA r.votes.length x.vc, .slice x.nA r.next.length x.nc, .slice x.mA r.mtch.length x.mc] 48)).alloc (.cells #[.int .i64 kd, .int .i64 dr, .int .i64 m.kind, .int .i64 m.src, .int .i64 m.dst, .int .i64 m.term, .int .i64 m.index, .int .i64 m.lterm, .int .i64 m.commit, .bool m.yes, .slice A m.es.length cap, .string m.data, .string s, .int .i64 to] 55)).alloc (.cells #[.int .i64 0, .slice none 0 0, .int .i64 0, .int .i64 0, .int .i64 0, .int .i64 0, .int .i64 0, .int .i64 0, .slice none 0 0, .string ⟨#[]⟩, .int .i64 0, .int .i64 0, .int .i64 0, .slice none 0 0, .slice none 0 0, .slice none 0 0] 48) = w1 at *
  have hw0 : Hid (w.heap.size < w1.heap.size) := Lib.hid (by have := HS1.out; omega)
  have hw2 : Hid (w.heap.size + 1 + 1 < w1.heap.size) := Lib.hid (by have := HS1.out; omega)
  have hz2 : Hid (w.heap.size ≤ w.heap.size + 1 + 1) := Lib.hid (by omega)
  have hn20 : w.heap.size + 1 + 1 ≠ w.heap.size := by omega
  have hn01 : w.heap.size ≠ w.heap.size + 1 := by omega
  have hn21 : w.heap.size + 1 + 1 ≠ w.heap.size + 1 := by omega
  have hD : ∀ i, w1.cell? ⟨w.heap.size + 1, i, none⟩ = (#[.int .i64 kd, .int .i64 dr, .int .i64 m.kind, .int .i64 m.src, .int .i64 m.dst, .int .i64 m.term, .int .i64 m.index, .int .i64 m.lterm, .int .i64 m.commit, .bool m.yes, .slice A m.es.length cap, .string m.data, .string s, .int .i64 to] : Array Value)[i]? := HD1.out.cells
  by_cases h0 : kd = 0
  · subst h0
    have HQ1 := Lib.hid (show q = (Rf.tick r dr).1 from by rw [HQ.out]; rfl)
    have HRx := HR1
    have HZx := HZ1
    have HBx := HB1
    have hwx0 := hw0
    have hwx2 := hw2
    clear HR1 HZ1 HB1 HD1 HS1
    go_wp2_with (refine wpList_loadB rfl 48 (.tmp 2) rfl w.heap.size rfl HRx.out Try.underlying48 infoR ?_)
    refine (HT.out w1 HBx.out).mono ?_
    rintro e w2 ⟨⟨x2, col2, LV2, rfl, _, hN⟩, hb2⟩
    have HN := Lib.hid hN
    have HR2 := Lib.hid (HRx.out.bel hb2)
    have HZ2 := Lib.hid (HZx.out.bel hb2)
    have HB2 := Lib.hid (bel_tr HBx.out hb2)
    clear hN hb2 HRx HZx HBx HT HH HP HC HS hD
    rw [← HQ1.out] at HN
    go_upto_region 12 with (refine wpList_storeB rfl 48 (.tmp 2) (.tmp 16) rfl w.heap.size (raftL q x2).toArray rfl (by rw [HQ1.out]; rfl) HR2.out infoR rfl (raftL_one _ _) ?_)
    have HR3 := Lib.hid (HR2.out.rowSame (raftL q x2).toArray)
    have HZ3 := Lib.hid (HZ2.out.rowFar hn20 (raftL q x2).toArray)
    have HN3 := Lib.hid (Rest.row1 HN.out.lowCol (lowCol_lt hwx0.out) (raftL q x2).toArray)
    have HB3 := Lib.hid (bel_row HB2.out (Nat.le_refl _) (raftL q x2).toArray)
    generalize w2.setRow w.heap.size (raftL q x2).toArray = w3 at *
    go_wp2_with (first | (refine wpList_loadB rfl 48 (.tmp 2) rfl w.heap.size rfl HR3.out Try.underlying48 infoR ?_) | (refine wpList_storeB rfl 48 (.tmp 4) (.tmp 53) rfl (w.heap.size + 1 + 1) (raftL q x2).toArray rfl rfl HZ3.out infoR rfl (raftL_one _ _) ?_))
    have hld := run_loadVarB (P := Try.prog) (HZ3.out.rowSame (raftL q x2).toArray) 48 Try.underlying48 infoR
    have HRow := Lib.hid (Rest.row1 HN3.out.lowCol (lowCol_lt hwx2.out) (raftL q x2).toArray)
    have HBR := Lib.hid (bel_row HB3.out hz2.out (raftL q x2).toArray)
    generalize w3.setRow (w.heap.size + 1 + 1) (raftL q x2).toArray = WG at *
    refine bodyPost_ret (v := raftV q x2) (by simp [results, Try.results38, asAddr, hld, Act.put]) rfl ?_
    exact ⟨⟨x2, _, LV2, rfl, HRow.out.low (Nat.le_of_lt hwx0.out)⟩, HBR.out⟩
  have b0 : (kd == 0) = false := by rw [beq_eq_false_iff_ne]; exact h0
  by_cases h1 : kd = 1
  · subst h1
    have HQ1 := Lib.hid (show q = (Rf.handle r { m with dst := r.id }).1 from by rw [HQ.out]; rfl)
    have hr0 : w1.cell? ⟨w.heap.size, 0, none⟩ = some (.int .i64 r.id) := HR1.out.cells 0
    have fD := HD1.out.free
    have HRx := Lib.hid (HR1.out.far (p := ⟨w.heap.size + 1, 4, none⟩) hn01 (.int .i64 r.id))
    have HZx := Lib.hid (HZ1.out.far (p := ⟨w.heap.size + 1, 4, none⟩) hn21 (.int .i64 r.id))
    have HBx := Lib.hid (bel_set HB1.out (g := w.heap.size + 1) (Nat.le_succ _) 4 (.int .i64 r.id))
    have hwx0 : Hid (w.heap.size < (w1.setCell ⟨w.heap.size + 1, 4, none⟩ (.int .i64 r.id)).heap.size) := Lib.hid (by rw [World.size_setCell]; exact hw0.out)
    have hwx2 : Hid (w.heap.size + 1 + 1 < (w1.setCell ⟨w.heap.size + 1, 4, none⟩ (.int .i64 r.id)).heap.size) := Lib.hid (by rw [World.size_setCell]; exact hw2.out)
    have hDx : Blk (w1.setCell ⟨w.heap.size + 1, 4, none⟩ (.int .i64 r.id)) (w.heap.size + 1) 55 #[.int .i64 1, .int .i64 dr, .int .i64 m.kind, .int .i64 m.src, .int .i64 r.id, .int .i64 m.term, .int .i64 m.index, .int .i64 m.lterm, .int .i64 m.commit, .bool m.yes, .slice A m.es.length cap, .string m.data, .string s, .int .i64 to] := by
      have := HD1.out.set 4 (.int .i64 r.id)
      simpa only [List.setIfInBounds_toArray, List.set_cons_succ, List.set_cons_zero] using this
    have HDx := Lib.hid hDx
    clear hDx
    go_upto_region 7 with (fail)
    generalize w1.setCell ⟨w.heap.size + 1, 4, none⟩ (.int .i64 r.id) = w1b at *
    clear hr0 fD HR1 HZ1 HB1 HD1 HS1 hD hw0 hw2
    have hD : ∀ i, w1b.cell? ⟨w.heap.size + 1, i, none⟩ = (#[.int .i64 1, .int .i64 dr, .int .i64 m.kind, .int .i64 m.src, .int .i64 r.id, .int .i64 m.term, .int .i64 m.index, .int .i64 m.lterm, .int .i64 m.commit, .bool m.yes, .slice A m.es.length cap, .string m.data, .string s, .int .i64 to] : Array Value)[i]? := HDx.out.cells
    go_wp2_with (refine wpList_loadB rfl 48 (.tmp 2) rfl w.heap.size rfl HRx.out Try.underlying48 infoR ?_)
    refine (HH.out w1b HBx.out).mono ?_
    rintro e w2 ⟨⟨x2, col2, LV2, rfl, _, hN⟩, hb2⟩
    have HN := Lib.hid hN
    have HR2 := Lib.hid (HRx.out.bel hb2)
    have HZ2 := Lib.hid (HZx.out.bel hb2)
    have HB2 := Lib.hid (bel_tr HBx.out hb2)
    clear hN hb2 HRx HZx HBx HT HH HP HC HS hD
    rw [← HQ1.out] at HN
    go_upto_region 12 with (refine wpList_storeB rfl 48 (.tmp 2) (.tmp 29) rfl w.heap.size (raftL q x2).toArray rfl (by rw [HQ1.out]; rfl) HR2.out infoR rfl (raftL_one _ _) ?_)
    have HR3 := Lib.hid (HR2.out.rowSame (raftL q x2).toArray)
    have HZ3 := Lib.hid (HZ2.out.rowFar hn20 (raftL q x2).toArray)
    have HN3 := Lib.hid (Rest.row1 HN.out.lowCol (lowCol_lt hwx0.out) (raftL q x2).toArray)
    have HB3 := Lib.hid (bel_row HB2.out (Nat.le_refl _) (raftL q x2).toArray)
    generalize w2.setRow w.heap.size (raftL q x2).toArray = w3 at *
    go_wp2_with (first | (refine wpList_loadB rfl 48 (.tmp 2) rfl w.heap.size rfl HR3.out Try.underlying48 infoR ?_) | (refine wpList_storeB rfl 48 (.tmp 4) (.tmp 53) rfl (w.heap.size + 1 + 1) (raftL q x2).toArray rfl rfl HZ3.out infoR rfl (raftL_one _ _) ?_))
    have hld := run_loadVarB (P := Try.prog) (HZ3.out.rowSame (raftL q x2).toArray) 48 Try.underlying48 infoR
    have HRow := Lib.hid (Rest.row1 HN3.out.lowCol (lowCol_lt hwx2.out) (raftL q x2).toArray)
    have HBR := Lib.hid (bel_row HB3.out hz2.out (raftL q x2).toArray)
    generalize w3.setRow (w.heap.size + 1 + 1) (raftL q x2).toArray = WG at *
    refine bodyPost_ret (v := raftV q x2) (by simp [results, Try.results38, asAddr, hld, Act.put]) rfl ?_
    exact ⟨⟨x2, _, LV2, rfl, HRow.out.low (Nat.le_of_lt hwx0.out)⟩, HBR.out⟩
  have b1 : (kd == 1) = false := by rw [beq_eq_false_iff_ne]; exact h1
  by_cases h2 : kd = 2
  · subst h2
    have HQ1 := Lib.hid (show q = Rf.propose r s from by rw [HQ.out]; rfl)
    have HRx := HR1
    have HZx := HZ1
    have HBx := HB1
    have hwx0 := hw0
    have hwx2 := hw2
    clear HR1 HZ1 HB1 HD1 HS1
    go_wp2_with (refine wpList_loadB rfl 48 (.tmp 2) rfl w.heap.size rfl HRx.out Try.underlying48 infoR ?_)
    refine (HP.out w1 HBx.out).mono ?_
    rintro e w2 ⟨⟨x2, col2, LV2, ⟨v2, v3, v4, rfl⟩, hN⟩, hb2⟩
    have HN := Lib.hid hN
    have HR2 := Lib.hid (HRx.out.bel hb2)
    have HZ2 := Lib.hid (HZx.out.bel hb2)
    have HB2 := Lib.hid (bel_tr HBx.out hb2)
    clear hN hb2 HRx HZx HBx HT HH HP HC HS hD
    rw [← HQ1.out] at HN
    go_upto_region 12 with (refine wpList_storeB rfl 48 (.tmp 2) (.tmp 38) rfl w.heap.size (raftL q x2).toArray rfl (by rw [HQ1.out]; rfl) HR2.out infoR rfl (raftL_one _ _) ?_)
    have HR3 := Lib.hid (HR2.out.rowSame (raftL q x2).toArray)
    have HZ3 := Lib.hid (HZ2.out.rowFar hn20 (raftL q x2).toArray)
    have HN3 := Lib.hid (Rest.row1 HN.out.lowCol (lowCol_lt hwx0.out) (raftL q x2).toArray)
    have HB3 := Lib.hid (bel_row HB2.out (Nat.le_refl _) (raftL q x2).toArray)
    generalize w2.setRow w.heap.size (raftL q x2).toArray = w3 at *
    go_wp2_with (first | (refine wpList_loadB rfl 48 (.tmp 2) rfl w.heap.size rfl HR3.out Try.underlying48 infoR ?_) | (refine wpList_storeB rfl 48 (.tmp 4) (.tmp 53) rfl (w.heap.size + 1 + 1) (raftL q x2).toArray rfl rfl HZ3.out infoR rfl (raftL_one _ _) ?_))
    have hld := run_loadVarB (P := Try.prog) (HZ3.out.rowSame (raftL q x2).toArray) 48 Try.underlying48 infoR
    have HRow := Lib.hid (Rest.row1 HN3.out.lowCol (lowCol_lt hwx2.out) (raftL q x2).toArray)
    have HBR := Lib.hid (bel_row HB3.out hz2.out (raftL q x2).toArray)
    generalize w3.setRow (w.heap.size + 1 + 1) (raftL q x2).toArray = WG at *
    refine bodyPost_ret (v := raftV q x2) (by simp [results, Try.results38, asAddr, hld, Act.put]) rfl ?_
    exact ⟨⟨x2, _, LV2, rfl, HRow.out.low (Nat.le_of_lt hwx0.out)⟩, HBR.out⟩
  have b2 : (kd == 2) = false := by rw [beq_eq_false_iff_ne]; exact h2
  by_cases h3 : kd = 3
  · subst h3
    have HQ1 := Lib.hid (show q = Rf.compact r to s from by rw [HQ.out]; rfl)
    have HRx := HR1
    have HZx := HZ1
    have HBx := HB1
    have hwx0 := hw0
    have hwx2 := hw2
    clear HR1 HZ1 HB1 HD1 HS1
    go_wp2_with (refine wpList_loadB rfl 48 (.tmp 2) rfl w.heap.size rfl HRx.out Try.underlying48 infoR ?_)
    refine (HC.out w1 HBx.out).mono ?_
    rintro e w2 ⟨⟨x2, col2, ⟨n2, rfl⟩, hN⟩, hb2⟩
    have HN := Lib.hid hN
    have HR2 := Lib.hid (HRx.out.bel hb2)
    have HZ2 := Lib.hid (HZx.out.bel hb2)
    have HB2 := Lib.hid (bel_tr HBx.out hb2)
    clear hN hb2 HRx HZx HBx HT HH HP HC HS hD
    rw [← HQ1.out] at HN
    go_upto_region 12 with (refine wpList_storeB rfl 48 (.tmp 2) (.tmp 51) rfl w.heap.size (raftL q x2).toArray rfl (by rw [HQ1.out]; rfl) HR2.out infoR rfl (raftL_one _ _) ?_)
    have HR3 := Lib.hid (HR2.out.rowSame (raftL q x2).toArray)
    have HZ3 := Lib.hid (HZ2.out.rowFar hn20 (raftL q x2).toArray)
    have HN3 := Lib.hid (Rest.row1 HN.out.lowCol (lowCol_lt hwx0.out) (raftL q x2).toArray)
    have HB3 := Lib.hid (bel_row HB2.out (Nat.le_refl _) (raftL q x2).toArray)
    generalize w2.setRow w.heap.size (raftL q x2).toArray = w3 at *
    go_wp2_with (first | (refine wpList_loadB rfl 48 (.tmp 2) rfl w.heap.size rfl HR3.out Try.underlying48 infoR ?_) | (refine wpList_storeB rfl 48 (.tmp 4) (.tmp 53) rfl (w.heap.size + 1 + 1) (raftL q x2).toArray rfl rfl HZ3.out infoR rfl (raftL_one _ _) ?_))
    have hld := run_loadVarB (P := Try.prog) (HZ3.out.rowSame (raftL q x2).toArray) 48 Try.underlying48 infoR
    have HRow := Lib.hid (Rest.row1 HN3.out.lowCol (lowCol_lt hwx2.out) (raftL q x2).toArray)
    have HBR := Lib.hid (bel_row HB3.out hz2.out (raftL q x2).toArray)
    generalize w3.setRow (w.heap.size + 1 + 1) (raftL q x2).toArray = WG at *
    refine bodyPost_ret (v := raftV q x2) (by simp [results, Try.results38, asAddr, hld, Act.put]) rfl ?_
    exact ⟨⟨x2, _, [], rfl, HRow.out.low (Nat.le_of_lt hwx0.out)⟩, HBR.out⟩
  have b3 : (kd == 3) = false := by rw [beq_eq_false_iff_ne]; exact h3
  have HQ1 := Lib.hid (show q = Rf.restart r from by rw [HQ.out, if_neg h0, if_neg h1, if_neg h2, if_neg h3])
  clear h0 h1 h2 h3
  have HRx := HR1
  have HZx := HZ1
  have HBx := HB1
  have hwx0 := hw0
  have hwx2 := hw2
  clear HR1 HZ1 HB1 HD1 HS1
  go_wp2_with (refine wpList_loadB rfl 48 (.tmp 2) rfl w.heap.size rfl HRx.out Try.underlying48 infoR ?_)
  refine (HS.out w1 HBx.out).mono ?_
  rintro e w2 ⟨⟨x2, col2, rfl, hN⟩, hb2⟩
  have HN := Lib.hid hN
  have HR2 := Lib.hid (HRx.out.bel hb2)
  have HZ2 := Lib.hid (HZx.out.bel hb2)
  have HB2 := Lib.hid (bel_tr HBx.out hb2)
  clear hN hb2 HRx HZx HBx HT HH HP HC HS hD
  rw [← HQ1.out] at HN
  go_upto_region 12 with (refine wpList_storeB rfl 48 (.tmp 2) (.tmp 8) rfl w.heap.size (raftL q { x2 with oA := none, oc := 0 }).toArray rfl (by rw [HQ1.out]; rfl) HR2.out infoR rfl (raftL_one _ _) ?_)
  have HR3 := Lib.hid (HR2.out.rowSame (raftL q { x2 with oA := none, oc := 0 }).toArray)
  have HZ3 := Lib.hid (HZ2.out.rowFar hn20 (raftL q { x2 with oA := none, oc := 0 }).toArray)
  have HN3 := Lib.hid (Rest.row1 HN.out.lowCol (lowCol_lt hwx0.out) (raftL q { x2 with oA := none, oc := 0 }).toArray)
  have HB3 := Lib.hid (bel_row HB2.out (Nat.le_refl _) (raftL q { x2 with oA := none, oc := 0 }).toArray)
  generalize w2.setRow w.heap.size (raftL q { x2 with oA := none, oc := 0 }).toArray = w3 at *
  go_wp2_with (first | (refine wpList_loadB rfl 48 (.tmp 2) rfl w.heap.size rfl HR3.out Try.underlying48 infoR ?_) | (refine wpList_storeB rfl 48 (.tmp 4) (.tmp 53) rfl (w.heap.size + 1 + 1) (raftL q { x2 with oA := none, oc := 0 }).toArray rfl rfl HZ3.out infoR rfl (raftL_one _ _) ?_))
  have hld := run_loadVarB (P := Try.prog) (HZ3.out.rowSame (raftL q { x2 with oA := none, oc := 0 }).toArray) 48 Try.underlying48 infoR
  have HRow := Lib.hid (Rest.row1 HN3.out.lowCol (lowCol_lt hwx2.out) (raftL q { x2 with oA := none, oc := 0 }).toArray)
  have HBR := Lib.hid (bel_row HB3.out hz2.out (raftL q { x2 with oA := none, oc := 0 }).toArray)
  generalize w3.setRow (w.heap.size + 1 + 1) (raftL q { x2 with oA := none, oc := 0 }).toArray = WG at *
  refine bodyPost_ret (v := raftV q { x2 with oA := none, oc := 0 }) (by simp [results, Try.results38, asAddr, hld, Act.put]) rfl ?_
  exact ⟨⟨{ x2 with oA := none, oc := 0 }, _, [], rfl, HRow.out.low (Nat.le_of_lt hwx0.out)⟩, HBR.out⟩
end Go.Proofs.Ytdladjgdhnkkcaa
