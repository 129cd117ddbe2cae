
/-
  Contracts: the log is cut.
  Conditions: the node can be read.
-/
import Derived.Test.YtdladjgdhnkkcaaZRf24
import Derived.Deep.Cut
namespace Go.Proofs.Ytdladjgdhnkkcaa
open Go.RowKit
set_option linter.unusedVariables false
set_option linter.unusedSimpArgs false
set_option maxHeartbeats 20000000

/-- a node in new memory, and a number -/
def Ans2 (w : World) (r : Nod) (e : Ending) (w' : World) : Prop :=
  (∃ x col, (∃ n : Int, e = .returned (.tuple #[raftV r x, .int .i64 n])) ∧ Rest w.heap.size col r x [] w') ∧ Below w.heap.size w w'
set_option maxRecDepth 100000 in
theorem compact_calls (r : Nod) (x : NdX) (w : World) (h : Hid (RdR w r x)) (to : Int) (sn : ByteArray) (hsn : sn.size ≤ 9223372036854775807) :
    Calls Try.prog 72 #[raftV r x, .int .i64 to, .string sn] w (Ans2 w (Rf.compact r to sn)) := by
  obtain ⟨q, hq⟩ : ∃ q, q = Rf.compact r to sn := ⟨_, rfl⟩
  rw [← hq]
  have HQ := Lib.hid hq
  unfold Rf.compact at HQ
  clear hq
  have HST := Lib.hid (fun (W : World) (hb : Below w.heap.size w W) => start_calls r x W (Lib.hid (h.out.bel hb)))
  have HCK := Lib.hid (fun (W : World) (hb : Below w.heap.size w W) => rfcheck_calls r x W (Lib.hid (h.out.bel hb)))
  have HCI := Lib.hid (Rf.chk_iff r)
  obtain ⟨c1, hc1⟩ : ∃ c1, c1 = Rf.chk r := ⟨_, rfl⟩
  rw [← hc1] at HCK HQ HCI
  clear hc1
  obtain ⟨id, conf, term, vote, role, leader, b, bt, es, snap, commit, left, wait, votes, next, mtch⟩ := r
  obtain ⟨cA, cc, eA, ec, vA, vc, nA, nc, mA, mc0, oA, oc⟩ := x
  have HB1 := Lib.hid (bel_new (bel_new (Below.refl w.heap.size w) (.cells #[.int .i64 id, .slice cA conf.length cc, .int .i64 term, .int .i64 vote, .int .i64 role, .int .i64 leader, .int .i64 b, .int .i64 bt, .slice eA es.length ec, .string snap, .int .i64 commit, .int .i64 left, .int .i64 wait, .slice vA votes.length vc, .slice nA next.length nc, .slice mA mtch.length mc0] 48)) (.cells #[.int .i64 0, .slice none 0 0, .int .i64 0, .int .i64 0, .int .i64 0, .int .i64 0, .int .i64 0, .int .i64 0, .slice none 0 0, .string ⟨#[]⟩, .int .i64 0, .int .i64 0, .int .i64 0, .slice none 0 0, .slice none 0 0, .slice none 0 0] 48))
  have HR1 := Lib.hid ((Blk.new w 48 #[.int .i64 id, .slice cA conf.length cc, .int .i64 term, .int .i64 vote, .int .i64 role, .int .i64 leader, .int .i64 b, .int .i64 bt, .slice eA es.length ec, .string snap, .int .i64 commit, .int .i64 left, .int .i64 wait, .slice vA votes.length vc, .slice nA next.length nc, .slice mA mtch.length mc0]).alloc (.cells #[.int .i64 0, .slice none 0 0, .int .i64 0, .int .i64 0, .int .i64 0, .int .i64 0, .int .i64 0, .int .i64 0, .slice none 0 0, .string ⟨#[]⟩, .int .i64 0, .int .i64 0, .int .i64 0, .slice none 0 0, .slice none 0 0, .slice none 0 0] 48))
  have HZ1 := Lib.hid (Blk.new2 w (.cells #[.int .i64 id, .slice cA conf.length cc, .int .i64 term, .int .i64 vote, .int .i64 role, .int .i64 leader, .int .i64 b, .int .i64 bt, .slice eA es.length ec, .string snap, .int .i64 commit, .int .i64 left, .int .i64 wait, .slice vA votes.length vc, .slice nA next.length nc, .slice mA mtch.length mc0] 48) 48 #[.int .i64 0, .slice none 0 0, .int .i64 0, .int .i64 0, .int .i64 0, .int .i64 0, .int .i64 0, .int .i64 0, .slice none 0 0, .string ⟨#[]⟩, .int .i64 0, .int .i64 0, .int .i64 0, .slice none 0 0, .slice none 0 0, .slice none 0 0])
  have hs1 : ((w.alloc (.cells #[.int .i64 id, .slice cA conf.length cc, .int .i64 term, .int .i64 vote, .int .i64 role, .int .i64 leader, .int .i64 b, .int .i64 bt, .slice eA es.length ec, .string snap, .int .i64 commit, .int .i64 left, .int .i64 wait, .slice vA votes.length vc, .slice nA next.length nc, .slice mA mtch.length mc0] 48)).alloc (.cells #[.int .i64 0, .slice none 0 0, .int .i64 0, .int .i64 0, .int .i64 0, .int .i64 0, .int .i64 0, .int .i64 0, .slice none 0 0, .string ⟨#[]⟩, .int .i64 0, .int .i64 0, .int .i64 0, .slice none 0 0, .slice none 0 0, .slice none 0 0] 48)).heap.size = w.heap.size + 2 := by rw [size_alloc, size_alloc]
  have HS1 := Lib.hid hs1
  clear hs1
  simp only at HST HCK HCI HQ
  go_enter Try.func72, Try.ntmps72
  go_wp2_with (refine wpList_loadB rfl 48 (.tmp 3) rfl w.heap.size rfl HR1.out Try.underlying48 infoR ?_)
  generalize (w.alloc (.cells #[.int .i64 id, .slice cA conf.length cc, .int .i64 term, .int .i64 vote, .int .i64 role, .int .i64 leader, .int .i64 b, .int .i64 bt, .slice eA es.length ec, .string snap, .int .i64 commit, .int .i64 left, .int .i64 wait, .slice vA votes.length vc, .slice nA next.length nc, .slice mA mtch.length mc0] 48)).alloc (.cells #[.int .i64 0, .slice none 0 0, .int .i64 0, .int .i64 0, .int .i64 0, .int .i64 0, .int .i64 0, .int .i64 0, .slice none 0 0, .string ⟨#[]⟩, .int .i64 0, .int .i64 0, .int .i64 0, .slice none 0 0, .slice none 0 0, .slice none 0 0] 48) = w1 at *
  have hlt3 : w.heap.size + 2 ≤ w1.heap.size := by rw [HS1.out]; exact Nat.le_refl _
  refine (HST.out w1 HB1.out).mono ?_
  rintro e w2 ⟨⟨g, x2, col, rfl, hN2⟩, hb2⟩
  have HN2 := Lib.hid hN2
  have hge : w1.heap.size ≤ g := hN2.ge
  have hgne0 : w.heap.size ≠ g := by omega
  have hgne1 : w.heap.size + 1 ≠ g := by omega
  have hzl : Hid (w.heap.size + 1 < w1.heap.size) := Lib.hid (by omega)
  have hz2 : Hid (w.heap.size ≤ w.heap.size + 1) := Lib.hid (by omega)
  have hgne3 : g ≠ w.heap.size + 1 := by omega
  have HB2 := Lib.hid (bel_tr HB1.out hb2)
  have HR2 := Lib.hid (HR1.out.bel hb2)
  have HZ2 := Lib.hid (HZ1.out.bel hb2)
  clear hN2 hb2 HB1 HR1 HZ1 HST
  go_wp2_with (refine wpList_loadB rfl 48 (.tmp 3) rfl w.heap.size rfl HR2.out Try.underlying48 infoR ?_)
  refine (HCK.out w2 HB2.out).mono ?_
  rintro e w3 ⟨rfl, hb3⟩
  have HN3 := Lib.hid (HN2.out.bel hb3)
  have HB3 := Lib.hid (bel_tr HB2.out hb3)
  have HZ3 := Lib.hid (HZ2.out.bel hb3)
  have HR3 := Lib.hid (HR2.out.bel hb3)
  clear hb3 HB2 HR2 HZ2 HN2 HCK
  cases c1 with
  | false =>
    have HQ1 := Lib.hid (show q = ⟨id, conf, term, vote, role, leader, b, bt, es, snap, commit, left, wait, votes, next, mtch⟩ from by rw [HQ.out]; rfl)
    go_wp2_with (first | (refine wpList_loadP rfl 48 (.tmp 16) rfl g rfl HN3.out.blk (raftL ⟨id, conf, term, vote, role, leader, b, bt, es, snap, commit, left, wait, votes, next, mtch⟩ x2) rfl Try.underlying48 infoR ?_) | (refine wpList_storeB rfl 48 (.tmp 6) (.tmp 17) rfl (w.heap.size + 1) (raftL ⟨id, conf, term, vote, role, leader, b, bt, es, snap, commit, left, wait, votes, next, mtch⟩ x2).toArray rfl rfl HZ3.out infoR rfl (raftL_one _ _) ?_))
    have hld := run_loadVarB (P := Try.prog) (HZ3.out.rowSame (raftL ⟨id, conf, term, vote, role, leader, b, bt, es, snap, commit, left, wait, votes, next, mtch⟩ x2).toArray) 48 Try.underlying48 infoR
    have HRow := Lib.hid (Rest.row1 (HN3.out.rest.out0.lowCol) (lowCol_lt hzl.out) (raftL ⟨id, conf, term, vote, role, leader, b, bt, es, snap, commit, left, wait, votes, next, mtch⟩ x2).toArray)
    have HBR2 := Lib.hid (bel_row HB3.out hz2.out (raftL ⟨id, conf, term, vote, role, leader, b, bt, es, snap, commit, left, wait, votes, next, mtch⟩ x2).toArray)
    generalize w3.setRow (w.heap.size + 1) (raftL ⟨id, conf, term, vote, role, leader, b, bt, es, snap, commit, left, wait, votes, next, mtch⟩ x2).toArray = WG at *
    refine bodyPost_ret (v := .tuple #[raftV ⟨id, conf, term, vote, role, leader, b, bt, es, snap, commit, left, wait, votes, next, mtch⟩ x2, .int .i64 4]) (by simp [results, Try.results72, asAddr, hld]) rfl ?_
    rw [HQ1.out]
    exact ⟨⟨{ x2 with oA := none, oc := 0 }, lowCol w1.heap.size col, ⟨4, rfl⟩, HRow.out.low (by omega)⟩, HBR2.out⟩
  | true =>
    have HQ1 := Lib.hid (show q = if to < b ∨ commit < to ∨ 60000 < sn.size then ⟨id, conf, term, vote, role, leader, b, bt, es, snap, commit, left, wait, votes, next, mtch⟩ else ⟨id, conf, term, vote, role, leader, to, Rf.trm0 ⟨id, conf, term, vote, role, leader, b, bt, es, snap, commit, left, wait, votes, next, mtch⟩ to, es.drop (to - b).toNat, sn, commit, left, wait, votes, next, mtch⟩ from by rw [HQ.out]; rfl)
    obtain ⟨hB, hRL⟩ := HCI.out.1 (by first | rfl | trivial)
    have HBR := Lib.hid hB
    have hc1 : commit ≤ b + es.length := hB.com1
    clear hB hRL HCI
    have kN6 : w3.cell? ⟨g, 6, none⟩ = some (.int .i64 b) := HN3.out.blk.cells 6
    have kN10 : w3.cell? ⟨g, 10, none⟩ = some (.int .i64 commit) := HN3.out.blk.cells 10
    by_cases h1 : to < b
    · have HQ2 := Lib.hid (show q = ⟨id, conf, term, vote, role, leader, b, bt, es, snap, commit, left, wait, votes, next, mtch⟩ from by rw [HQ1.out, if_pos (Or.inl h1)])
      clear kN10
      go_wp2_with (first | (refine wpList_loadP rfl 48 (.tmp 42) rfl g rfl HN3.out.blk (raftL ⟨id, conf, term, vote, role, leader, b, bt, es, snap, commit, left, wait, votes, next, mtch⟩ x2) rfl Try.underlying48 infoR ?_) | (refine wpList_storeB rfl 48 (.tmp 6) (.tmp 43) rfl (w.heap.size + 1) (raftL ⟨id, conf, term, vote, role, leader, b, bt, es, snap, commit, left, wait, votes, next, mtch⟩ x2).toArray rfl rfl HZ3.out infoR rfl (raftL_one _ _) ?_))
      have hld := run_loadVarB (P := Try.prog) (HZ3.out.rowSame (raftL ⟨id, conf, term, vote, role, leader, b, bt, es, snap, commit, left, wait, votes, next, mtch⟩ x2).toArray) 48 Try.underlying48 infoR
      have HRow := Lib.hid (Rest.row1 (HN3.out.rest.out0.lowCol) (lowCol_lt hzl.out) (raftL ⟨id, conf, term, vote, role, leader, b, bt, es, snap, commit, left, wait, votes, next, mtch⟩ x2).toArray)
      have HBR2 := Lib.hid (bel_row HB3.out hz2.out (raftL ⟨id, conf, term, vote, role, leader, b, bt, es, snap, commit, left, wait, votes, next, mtch⟩ x2).toArray)
      generalize w3.setRow (w.heap.size + 1) (raftL ⟨id, conf, term, vote, role, leader, b, bt, es, snap, commit, left, wait, votes, next, mtch⟩ x2).toArray = WG at *
      refine bodyPost_ret (v := .tuple #[raftV ⟨id, conf, term, vote, role, leader, b, bt, es, snap, commit, left, wait, votes, next, mtch⟩ x2, .int .i64 1]) (by simp [results, Try.results72, asAddr, hld]) rfl ?_
      rw [HQ2.out]
      exact ⟨⟨{ x2 with oA := none, oc := 0 }, lowCol w1.heap.size col, ⟨1, rfl⟩, HRow.out.low (by omega)⟩, HBR2.out⟩
    by_cases h2 : commit < to
    · have HQ2 := Lib.hid (show q = ⟨id, conf, term, vote, role, leader, b, bt, es, snap, commit, left, wait, votes, next, mtch⟩ from by rw [HQ1.out, if_pos (Or.inr (Or.inl h2))])
      go_wp2_with (first | (refine wpList_loadP rfl 48 (.tmp 42) rfl g rfl HN3.out.blk (raftL ⟨id, conf, term, vote, role, leader, b, bt, es, snap, commit, left, wait, votes, next, mtch⟩ x2) rfl Try.underlying48 infoR ?_) | (refine wpList_storeB rfl 48 (.tmp 6) (.tmp 43) rfl (w.heap.size + 1) (raftL ⟨id, conf, term, vote, role, leader, b, bt, es, snap, commit, left, wait, votes, next, mtch⟩ x2).toArray rfl rfl HZ3.out infoR rfl (raftL_one _ _) ?_))
      have hld := run_loadVarB (P := Try.prog) (HZ3.out.rowSame (raftL ⟨id, conf, term, vote, role, leader, b, bt, es, snap, commit, left, wait, votes, next, mtch⟩ x2).toArray) 48 Try.underlying48 infoR
      have HRow := Lib.hid (Rest.row1 (HN3.out.rest.out0.lowCol) (lowCol_lt hzl.out) (raftL ⟨id, conf, term, vote, role, leader, b, bt, es, snap, commit, left, wait, votes, next, mtch⟩ x2).toArray)
      have HBR2 := Lib.hid (bel_row HB3.out hz2.out (raftL ⟨id, conf, term, vote, role, leader, b, bt, es, snap, commit, left, wait, votes, next, mtch⟩ x2).toArray)
      generalize w3.setRow (w.heap.size + 1) (raftL ⟨id, conf, term, vote, role, leader, b, bt, es, snap, commit, left, wait, votes, next, mtch⟩ x2).toArray = WG at *
      refine bodyPost_ret (v := .tuple #[raftV ⟨id, conf, term, vote, role, leader, b, bt, es, snap, commit, left, wait, votes, next, mtch⟩ x2, .int .i64 1]) (by simp [results, Try.results72, asAddr, hld]) rfl ?_
      rw [HQ2.out]
      exact ⟨⟨{ x2 with oA := none, oc := 0 }, lowCol w1.heap.size col, ⟨1, rfl⟩, HRow.out.low (by omega)⟩, HBR2.out⟩
    by_cases h3 : 60000 < sn.size
    · have h3i : (60000 : Int) < (sn.size : Int) := by omega
      have HQ2 := Lib.hid (show q = ⟨id, conf, term, vote, role, leader, b, bt, es, snap, commit, left, wait, votes, next, mtch⟩ from by rw [HQ1.out, if_pos (Or.inr (Or.inr h3))])
      go_wp2_with (first | (refine wpList_loadP rfl 48 (.tmp 42) rfl g rfl HN3.out.blk (raftL ⟨id, conf, term, vote, role, leader, b, bt, es, snap, commit, left, wait, votes, next, mtch⟩ x2) rfl Try.underlying48 infoR ?_) | (refine wpList_storeB rfl 48 (.tmp 6) (.tmp 43) rfl (w.heap.size + 1) (raftL ⟨id, conf, term, vote, role, leader, b, bt, es, snap, commit, left, wait, votes, next, mtch⟩ x2).toArray rfl rfl HZ3.out infoR rfl (raftL_one _ _) ?_))
      have hld := run_loadVarB (P := Try.prog) (HZ3.out.rowSame (raftL ⟨id, conf, term, vote, role, leader, b, bt, es, snap, commit, left, wait, votes, next, mtch⟩ x2).toArray) 48 Try.underlying48 infoR
      have HRow := Lib.hid (Rest.row1 (HN3.out.rest.out0.lowCol) (lowCol_lt hzl.out) (raftL ⟨id, conf, term, vote, role, leader, b, bt, es, snap, commit, left, wait, votes, next, mtch⟩ x2).toArray)
      have HBR2 := Lib.hid (bel_row HB3.out hz2.out (raftL ⟨id, conf, term, vote, role, leader, b, bt, es, snap, commit, left, wait, votes, next, mtch⟩ x2).toArray)
      generalize w3.setRow (w.heap.size + 1) (raftL ⟨id, conf, term, vote, role, leader, b, bt, es, snap, commit, left, wait, votes, next, mtch⟩ x2).toArray = WG at *
      refine bodyPost_ret (v := .tuple #[raftV ⟨id, conf, term, vote, role, leader, b, bt, es, snap, commit, left, wait, votes, next, mtch⟩ x2, .int .i64 1]) (by simp [results, Try.results72, asAddr, hld]) rfl ?_
      rw [HQ2.out]
      exact ⟨⟨{ x2 with oA := none, oc := 0 }, lowCol w1.heap.size col, ⟨1, rfl⟩, HRow.out.low (by omega)⟩, HBR2.out⟩
    have h3i : ¬ (60000 : Int) < (sn.size : Int) := by omega
    have hh : Tr.has b bt es to = true := by unfold Tr.has; rw [HBR.out.trail]; simp only [Bool.true_and, Bool.and_eq_true, decide_eq_true_eq]; omega
    obtain ⟨es2, hes2⟩ : ∃ es2, es2 = es.drop (to - b).toNat := ⟨_, rfl⟩
    obtain ⟨tt, htt⟩ : ∃ tt, tt = Tr.trm b bt es to := ⟨_, rfl⟩
    have HQ2 := Lib.hid (show q = ⟨id, conf, term, vote, role, leader, to, tt, es2, sn, commit, left, wait, votes, next, mtch⟩ from by
      rw [HQ1.out, if_neg (by omega), hes2, htt]
      unfold Rf.trm0
      rw [if_pos hh])
    have HCC : Hid (∀ W, RdE W x2.eA es → Calls Try.prog 27 #[trV b bt x2.eA es.length x2.ec, .int .i64 to] W fun e w' => (∃ A2 c2, e = .returned (.tuple #[trV to tt A2 es2.length c2, .bool true]) ∧ OwnE w' W.heap.size (.slice A2 es2.length c2) es2) ∧ Below W.heap.size W w') := Lib.hid (fun W hR => (cut_calls b bt to x2.eA x2.ec es W hR (by have := h.out.es2; simp only at this; omega) HN3.out.rest.es.le).mono fun e w' ⟨⟨v, h1, h2⟩, h3⟩ => by
      rw [if_pos hh, ← hes2, ← htt] at h2
      obtain ⟨A2, c2, e2, k1⟩ := h2
      exact ⟨⟨A2, c2, by rw [h1, e2], k1⟩, h3⟩)
    have kN7 : w3.cell? ⟨g, 7, none⟩ = some (.int .i64 bt) := HN3.out.blk.cells 7
    have kN8 : w3.cell? ⟨g, 8, none⟩ = some (.slice x2.eA es.length x2.ec) := HN3.out.blk.cells 8
    clear hes2 htt hh h3 HQ1 HBR
    go_wp2_with fail
    refine (HCC.out w3 HN3.out.rest.es.rd).mono ?_
    rintro e w4 ⟨⟨A2, c2, rfl, k1⟩, hb4⟩
    have NL := Lib.hid (HN3.out.log_new hb4 to tt k1)
    have HB4 := Lib.hid (bel_tr HB3.out hb4)
    have HZ4 := Lib.hid (HZ3.out.bel hb4)
    have N4 := Lib.hid (HN3.out.bel hb4)
    have k6 : w4.cell? ⟨g, 6, none⟩ = some (.int .i64 b) := N4.out.blk.cells 6
    have k7 : w4.cell? ⟨g, 7, none⟩ = some (.int .i64 bt) := N4.out.blk.cells 7
    have k8 : w4.cell? ⟨g, 8, none⟩ = some (.slice x2.eA es.length x2.ec) := N4.out.blk.cells 8
    have k9 : w4.cell? ⟨g, 9, none⟩ = some (.string snap) := N4.out.blk.cells 9
    have fN := N4.out.blk.free
    have NR := Lib.hid (NL.out.run.set 9 (.string sn))
    have N5 := Lib.hid (NR.out.nd ⟨id, conf, term, vote, role, leader, to, tt, es2, sn, commit, left, wait, votes, next, mtch⟩ (by simp only [nodeC, List.setIfInBounds_toArray, List.set_cons_succ, List.set_cons_zero]) rfl rfl rfl rfl rfl)
    have hwz : w.heap.size ≤ g := by omega
    have HB5 := Lib.hid (bel_set (bel_set (bel_set (bel_set HB4.out hwz 6 (.int .i64 to)) hwz 7 (.int .i64 tt)) hwz 8 (.slice A2 es2.length c2)) hwz 9 (.string sn))
    have HZ5 := Lib.hid ((((HZ4.out.far (p := ⟨g, 6, none⟩) hgne1 (.int .i64 to)).far (p := ⟨g, 7, none⟩) hgne1 (.int .i64 tt)).far (p := ⟨g, 8, none⟩) hgne1 (.slice A2 es2.length c2)).far (p := ⟨g, 9, none⟩) hgne1 (.string sn))
    clear k1 hb4 kN6 kN7 kN8 kN10 HCC NR NL HB4 HZ4 N4 hwz
    go_upto_region 8 with (fail)
    generalize (((w4.setCell ⟨g, 6, none⟩ (.int .i64 to)).setCell ⟨g, 7, none⟩ (.int .i64 tt)).setCell ⟨g, 8, none⟩ (.slice A2 es2.length c2)).setCell ⟨g, 9, none⟩ (.string sn) = w5 at *
    clear k6 k7 k8 k9 fN
    go_wp2_with (first | (refine wpList_loadP rfl 48 (.tmp 65) rfl g rfl N5.out.blk (raftL ⟨id, conf, term, vote, role, leader, to, tt, es2, sn, commit, left, wait, votes, next, mtch⟩ { x2 with eA := A2, ec := c2 }) rfl Try.underlying48 infoR ?_) | (refine wpList_storeB rfl 48 (.tmp 6) (.tmp 66) rfl (w.heap.size + 1) (raftL ⟨id, conf, term, vote, role, leader, to, tt, es2, sn, commit, left, wait, votes, next, mtch⟩ { x2 with eA := A2, ec := c2 }).toArray rfl rfl HZ5.out infoR rfl (raftL_one _ _) ?_))
    have hld := run_loadVarB (P := Try.prog) (HZ5.out.rowSame (raftL ⟨id, conf, term, vote, role, leader, to, tt, es2, sn, commit, left, wait, votes, next, mtch⟩ { x2 with eA := A2, ec := c2 }).toArray) 48 Try.underlying48 infoR
    have HRow := Lib.hid (Rest.row1 (N5.out.rest.out0.lowCol) (lowCol_lt hzl.out) (raftL ⟨id, conf, term, vote, role, leader, to, tt, es2, sn, commit, left, wait, votes, next, mtch⟩ { x2 with eA := A2, ec := c2 }).toArray)
    have HBR2 := Lib.hid (bel_row HB5.out hz2.out (raftL ⟨id, conf, term, vote, role, leader, to, tt, es2, sn, commit, left, wait, votes, next, mtch⟩ { x2 with eA := A2, ec := c2 }).toArray)
    generalize w5.setRow (w.heap.size + 1) (raftL ⟨id, conf, term, vote, role, leader, to, tt, es2, sn, commit, left, wait, votes, next, mtch⟩ { x2 with eA := A2, ec := c2 }).toArray = WG at *
    refine bodyPost_ret (v := .tuple #[raftV ⟨id, conf, term, vote, role, leader, to, tt, es2, sn, commit, left, wait, votes, next, mtch⟩ { x2 with eA := A2, ec := c2 }, .int .i64 0]) (by simp [results, Try.results72, asAddr, hld]) rfl ?_
    rw [HQ2.out]
    exact ⟨⟨{ { x2 with eA := A2, ec := c2 } with oA := none, oc := 0 }, lowCol w1.heap.size (recol col w3.heap.size 0), ⟨0, rfl⟩, HRow.out.low (by omega)⟩, HBR2.out⟩
end Go.Proofs.Ytdladjgdhnkkcaa
