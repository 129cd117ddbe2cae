
/-
  Contracts: a proposal.
  Conditions: the node can be read.
-/
import Derived.Test.YtdladjgdhnkkcaaZRf26
import Derived.Deep.Cut
namespace Go.Proofs.Ytdladjgdhnkkcaa
open Go.RowKit
set_option linter.unusedVariables false
set_option linter.unusedSimpArgs false
set_option maxHeartbeats 20000000

/-- a node in new memory, and more -/
def Ans3 (w : World) (r : Nod) (e : Ending) (w' : World) : Prop :=
  (∃ x col LV, (∃ v2 v3 v4, e = .returned (.tuple #[raftV r x, v2, v3, v4])) ∧ Rest w.heap.size col r x LV w') ∧ Below w.heap.size w w'
theorem prop_fit {r : Nod} (hB : Rf.Base r) (hLd : Rf.Lead r) (s : ByteArray) : Fit2 (Rf.grow r s) ∧ (∀ i, i < (Rf.agree (Rf.own (Rf.grow r s))).conf.length → (Rf.agree (Rf.own (Rf.grow r s))).next.getD i 0 ≤ 9223372036854775807) := by
  have hrim := Tr.chk_rim hB.trail
  have hca := Qm.chk_asc hB.conf
  obtain ⟨eg, heg, hg1, hg2, hg3, _⟩ := Rf.grow_eq hB s
  have hrim2 := Tr.chk_rim hg1
  have he2 := Rf.lastN_eq hg1
  have hfit : Fit2 (Rf.grow r s) := by
    rw [heg]
    refine ⟨hca.2.1, hca.2.2, hB.id, hLd.next, hLd.mtch, hrim.1, hrim2.2.2.2.2.2.1, ?_, ?_⟩
    · show 0 ≤ Tr.lastN r.b r.bt eg
      rw [he2]; omega
    · show Tr.lastN r.b r.bt eg ≤ _
      rw [he2]; exact hrim2.2.2.2.2.2.2
  refine ⟨hfit, fun i hi => ?_⟩
  rw [(agree_next _).1]
  rw [(agree_next _).2] at hi
  show (List.set (Rf.grow r s).next _ _).getD i 0 ≤ _
  rw [Rf.set_get _ _ _ _ (by rw [hfit.next]; exact Rf.idx_lt hfit.id)]
  have := hfit.l1
  split
  · omega
  · rw [heg] at hi ⊢
    have h1 := (hLd.nums i hi).2.2.2
    have h2 := hrim.2.1
    have h3 := hrim.2.2.2.2.2.1
    show r.next.getD i 0 ≤ _
    omega
set_option maxRecDepth 100000 in
theorem propose_calls (r : Nod) (x : NdX) (w : World) (h : Hid (RdR w r x)) (s : ByteArray) (hsn : s.size ≤ 9223372036854775807) :
    Calls Try.prog 71 #[raftV r x, .string s] w (Ans3 w (Rf.propose r s)) := by
  obtain ⟨q, hq⟩ : ∃ q, q = Rf.propose r s := ⟨_, rfl⟩
  rw [← hq]
  have HQ := Lib.hid hq
  unfold Rf.propose at HQ
  clear hq
  have HST := Lib.hid (fun (W : World) (hb : Below w.heap.size w W) => start_calls r x W (Lib.hid (h.out.bel hb)))
  have HCK := Lib.hid (fun (W : World) (hb : Below w.heap.size w W) => rfcheck_calls r x W (Lib.hid (h.out.bel hb)))
  have HCI := Lib.hid (Rf.chk_iff r)
  obtain ⟨c1, hc1⟩ : ∃ c1, c1 = Rf.chk r := ⟨_, rfl⟩
  rw [← hc1] at HCK HQ HCI
  clear hc1
  obtain ⟨id, conf, term, vote, role, leader, b, bt, es, snap, commit, left, wait, votes, next, mtch⟩ := r
  obtain ⟨cA, cc, eA, ec, vA, vc, nA, nc, mA, mc0, oA, oc⟩ := x
  have HB1 := Lib.hid (bel_new (bel_new (Below.refl w.heap.size w) (.cells #[.int .i64 id, .slice cA conf.length cc, .int .i64 term, .int .i64 vote, .int .i64 role, .int .i64 leader, .int .i64 b, .int .i64 bt, .slice eA es.length ec, .string snap, .int .i64 commit, .int .i64 left, .int .i64 wait, .slice vA votes.length vc, .slice nA next.length nc, .slice mA mtch.length mc0] 48)) (.cells #[.int .i64 0, .slice none 0 0, .int .i64 0, .int .i64 0, .int .i64 0, .int .i64 0, .int .i64 0, .int .i64 0, .slice none 0 0, .string ⟨#[]⟩, .int .i64 0, .int .i64 0, .int .i64 0, .slice none 0 0, .slice none 0 0, .slice none 0 0] 48))
  have HR1 := Lib.hid ((Blk.new w 48 #[.int .i64 id, .slice cA conf.length cc, .int .i64 term, .int .i64 vote, .int .i64 role, .int .i64 leader, .int .i64 b, .int .i64 bt, .slice eA es.length ec, .string snap, .int .i64 commit, .int .i64 left, .int .i64 wait, .slice vA votes.length vc, .slice nA next.length nc, .slice mA mtch.length mc0]).alloc (.cells #[.int .i64 0, .slice none 0 0, .int .i64 0, .int .i64 0, .int .i64 0, .int .i64 0, .int .i64 0, .int .i64 0, .slice none 0 0, .string ⟨#[]⟩, .int .i64 0, .int .i64 0, .int .i64 0, .slice none 0 0, .slice none 0 0, .slice none 0 0] 48))
  have HZ1 := Lib.hid (Blk.new2 w (.cells #[.int .i64 id, .slice cA conf.length cc, .int .i64 term, .int .i64 vote, .int .i64 role, .int .i64 leader, .int .i64 b, .int .i64 bt, .slice eA es.length ec, .string snap, .int .i64 commit, .int .i64 left, .int .i64 wait, .slice vA votes.length vc, .slice nA next.length nc, .slice mA mtch.length mc0] 48) 48 #[.int .i64 0, .slice none 0 0, .int .i64 0, .int .i64 0, .int .i64 0, .int .i64 0, .int .i64 0, .int .i64 0, .slice none 0 0, .string ⟨#[]⟩, .int .i64 0, .int .i64 0, .int .i64 0, .slice none 0 0, .slice none 0 0, .slice none 0 0])
  have hs1 : ((w.alloc (.cells #[.int .i64 id, .slice cA conf.length cc, .int .i64 term, .int .i64 vote, .int .i64 role, .int .i64 leader, .int .i64 b, .int .i64 bt, .slice eA es.length ec, .string snap, .int .i64 commit, .int .i64 left, .int .i64 wait, .slice vA votes.length vc, .slice nA next.length nc, .slice mA mtch.length mc0] 48)).alloc (.cells #[.int .i64 0, .slice none 0 0, .int .i64 0, .int .i64 0, .int .i64 0, .int .i64 0, .int .i64 0, .int .i64 0, .slice none 0 0, .string ⟨#[]⟩, .int .i64 0, .int .i64 0, .int .i64 0, .slice none 0 0, .slice none 0 0, .slice none 0 0] 48)).heap.size = w.heap.size + 2 := by rw [size_alloc, size_alloc]
  have HS1 := Lib.hid hs1
  clear hs1
  simp only at HST HCK HCI HQ
  go_enter Try.func71, Try.ntmps71
  go_wp2_with (refine wpList_loadB rfl 48 (.tmp 2) rfl w.heap.size rfl HR1.out Try.underlying48 infoR ?_)
  generalize (w.alloc (.cells #[.int .i64 id, .slice cA conf.length cc, .int .i64 term, .int .i64 vote, .int .i64 role, .int .i64 leader, .int .i64 b, .int .i64 bt, .slice eA es.length ec, .string snap, .int .i64 commit, .int .i64 left, .int .i64 wait, .slice vA votes.length vc, .slice nA next.length nc, .slice mA mtch.length mc0] 48)).alloc (.cells #[.int .i64 0, .slice none 0 0, .int .i64 0, .int .i64 0, .int .i64 0, .int .i64 0, .int .i64 0, .int .i64 0, .slice none 0 0, .string ⟨#[]⟩, .int .i64 0, .int .i64 0, .int .i64 0, .slice none 0 0, .slice none 0 0, .slice none 0 0] 48) = w1 at *
  have hlt3 : w.heap.size + 2 ≤ w1.heap.size := by rw [HS1.out]; exact Nat.le_refl _
  refine (HST.out w1 HB1.out).mono ?_
  rintro e w2 ⟨⟨g, x2, col, rfl, hN2⟩, hb2⟩
  have HN2 := Lib.hid hN2
  have hge : w1.heap.size ≤ g := hN2.ge
  have hgne0 : w.heap.size ≠ g := by omega
  have hgne1 : w.heap.size + 1 ≠ g := by omega
  have hzl : Hid (w.heap.size + 1 < w1.heap.size) := Lib.hid (by omega)
  have hz2 : Hid (w.heap.size ≤ w.heap.size + 1) := Lib.hid (by omega)
  have hgne3 : g ≠ w.heap.size + 1 := by omega
  have HB2 := Lib.hid (bel_tr HB1.out hb2)
  have HR2 := Lib.hid (HR1.out.bel hb2)
  have HZ2 := Lib.hid (HZ1.out.bel hb2)
  clear hN2 hb2 HB1 HR1 HZ1 HST
  go_wp2_with (refine wpList_loadB rfl 48 (.tmp 2) rfl w.heap.size rfl HR2.out Try.underlying48 infoR ?_)
  refine (HCK.out w2 HB2.out).mono ?_
  rintro e w3 ⟨rfl, hb3⟩
  have HN3 := Lib.hid (HN2.out.bel hb3)
  have HB3 := Lib.hid (bel_tr HB2.out hb3)
  have HZ3 := Lib.hid (HZ2.out.bel hb3)
  have HR3 := Lib.hid (HR2.out.bel hb3)
  clear hb3 HB2 HR2 HZ2 HN2 HCK
  cases c1 with
  | false =>
    have HQ1 := Lib.hid (show q = ⟨id, conf, term, vote, role, leader, b, bt, es, snap, commit, left, wait, votes, next, mtch⟩ from by rw [HQ.out]; rfl)
    go_wp2_with (first | (refine wpList_loadP rfl 48 (.tmp 24) rfl g rfl HN3.out.blk (raftL ⟨id, conf, term, vote, role, leader, b, bt, es, snap, commit, left, wait, votes, next, mtch⟩ x2) rfl Try.underlying48 infoR ?_) | (refine wpList_storeB rfl 48 (.tmp 4) (.tmp 25) rfl (w.heap.size + 1) (raftL ⟨id, conf, term, vote, role, leader, b, bt, es, snap, commit, left, wait, votes, next, mtch⟩ x2).toArray rfl rfl HZ3.out infoR rfl (raftL_one _ _) ?_))
    have hld := run_loadVarB (P := Try.prog) (HZ3.out.rowSame (raftL ⟨id, conf, term, vote, role, leader, b, bt, es, snap, commit, left, wait, votes, next, mtch⟩ x2).toArray) 48 Try.underlying48 infoR
    have HRow := Lib.hid (Rest.row1 (HN3.out.rest.out0.lowCol) (lowCol_lt hzl.out) (raftL ⟨id, conf, term, vote, role, leader, b, bt, es, snap, commit, left, wait, votes, next, mtch⟩ x2).toArray)
    have HBR2 := Lib.hid (bel_row HB3.out hz2.out (raftL ⟨id, conf, term, vote, role, leader, b, bt, es, snap, commit, left, wait, votes, next, mtch⟩ x2).toArray)
    generalize w3.setRow (w.heap.size + 1) (raftL ⟨id, conf, term, vote, role, leader, b, bt, es, snap, commit, left, wait, votes, next, mtch⟩ x2).toArray = WG at *
    refine bodyPost_ret (v := .tuple #[raftV ⟨id, conf, term, vote, role, leader, b, bt, es, snap, commit, left, wait, votes, next, mtch⟩ x2, .slice none 0 0, .int .i64 0, .int .i64 4]) (by simp [results, Try.results71, asAddr, hld]) rfl ?_
    rw [HQ1.out]
    exact ⟨⟨{ x2 with oA := none, oc := 0 }, lowCol w1.heap.size col, [], ⟨_, _, _, rfl⟩, HRow.out.low (by omega)⟩, HBR2.out⟩
  | true =>
    obtain ⟨hB, hRL⟩ := HCI.out.1 (by first | rfl | trivial)
    have HBR := Lib.hid hB
    have HRL := Lib.hid hRL
    clear hB hRL HCI
    have kB : w3.cell? ⟨w.heap.size, 4, none⟩ = some (.int .i64 role) := HR3.out.cells 4
    by_cases kr : role = 2
    case neg =>
      have krb : (role == 2) = false := by rw [beq_eq_false_iff_ne]; exact kr
      have HQ1 := Lib.hid (show q = ⟨id, conf, term, vote, role, leader, b, bt, es, snap, commit, left, wait, votes, next, mtch⟩ from by rw [HQ.out]; simp [kr])
      clear kr
      go_wp2_with (first | (refine wpList_loadP rfl 48 (.tmp 24) rfl g rfl HN3.out.blk (raftL ⟨id, conf, term, vote, role, leader, b, bt, es, snap, commit, left, wait, votes, next, mtch⟩ x2) rfl Try.underlying48 infoR ?_) | (refine wpList_storeB rfl 48 (.tmp 4) (.tmp 25) rfl (w.heap.size + 1) (raftL ⟨id, conf, term, vote, role, leader, b, bt, es, snap, commit, left, wait, votes, next, mtch⟩ x2).toArray rfl rfl HZ3.out infoR rfl (raftL_one _ _) ?_))
      have hld := run_loadVarB (P := Try.prog) (HZ3.out.rowSame (raftL ⟨id, conf, term, vote, role, leader, b, bt, es, snap, commit, left, wait, votes, next, mtch⟩ x2).toArray) 48 Try.underlying48 infoR
      have HRow := Lib.hid (Rest.row1 (HN3.out.rest.out0.lowCol) (lowCol_lt hzl.out) (raftL ⟨id, conf, term, vote, role, leader, b, bt, es, snap, commit, left, wait, votes, next, mtch⟩ x2).toArray)
      have HBR2 := Lib.hid (bel_row HB3.out hz2.out (raftL ⟨id, conf, term, vote, role, leader, b, bt, es, snap, commit, left, wait, votes, next, mtch⟩ x2).toArray)
      generalize w3.setRow (w.heap.size + 1) (raftL ⟨id, conf, term, vote, role, leader, b, bt, es, snap, commit, left, wait, votes, next, mtch⟩ x2).toArray = WG at *
      refine bodyPost_ret (v := .tuple #[raftV ⟨id, conf, term, vote, role, leader, b, bt, es, snap, commit, left, wait, votes, next, mtch⟩ x2, .slice none 0 0, .int .i64 0, .int .i64 4]) (by simp [results, Try.results71, asAddr, hld]) rfl ?_
      rw [HQ1.out]
      exact ⟨⟨{ x2 with oA := none, oc := 0 }, lowCol w1.heap.size col, [], ⟨_, _, _, rfl⟩, HRow.out.low (by omega)⟩, HBR2.out⟩
    case pos =>
      subst kr
      have HQ1 := Lib.hid (show q = if 1 ≤ s.size ∧ s.size ≤ 4096 then if (Rf.app ⟨id, conf, term, vote, 2, leader, b, bt, es, snap, commit, left, wait, votes, next, mtch⟩ s).isSome then Rf.agree (Rf.own (Rf.grow ⟨id, conf, term, vote, 2, leader, b, bt, es, snap, commit, left, wait, votes, next, mtch⟩ s)) else ⟨id, conf, term, vote, 2, leader, b, bt, es, snap, commit, left, wait, votes, next, mtch⟩ else ⟨id, conf, term, vote, 2, leader, b, bt, es, snap, commit, left, wait, votes, next, mtch⟩ from by rw [HQ.out]; simp only [Bool.true_and, decide_true, if_true])
      have hLd : Rf.Lead ⟨id, conf, term, vote, 2, leader, b, bt, es, snap, commit, left, wait, votes, next, mtch⟩ := by
        rcases HRL.out with ⟨a, _⟩ | ⟨a, _⟩ | ⟨_, _, a⟩
        · simp only at a; omega
        · simp only at a; omega
        · exact a
      have HLD := Lib.hid hLd
      clear hLd HRL HQ
      by_cases h1 : s.size < 1
      · have h1i : (s.size : Int) < 1 := by omega
        have HQ2 := Lib.hid (show q = ⟨id, conf, term, vote, 2, leader, b, bt, es, snap, commit, left, wait, votes, next, mtch⟩ from by rw [HQ1.out, if_neg (by omega)])
        clear h1
        go_wp2_with (first | (refine wpList_loadP rfl 48 (.tmp 37) rfl g rfl HN3.out.blk (raftL ⟨id, conf, term, vote, 2, leader, b, bt, es, snap, commit, left, wait, votes, next, mtch⟩ x2) rfl Try.underlying48 infoR ?_) | (refine wpList_storeB rfl 48 (.tmp 4) (.tmp 38) rfl (w.heap.size + 1) (raftL ⟨id, conf, term, vote, 2, leader, b, bt, es, snap, commit, left, wait, votes, next, mtch⟩ x2).toArray rfl rfl HZ3.out infoR rfl (raftL_one _ _) ?_))
        have hld := run_loadVarB (P := Try.prog) (HZ3.out.rowSame (raftL ⟨id, conf, term, vote, 2, leader, b, bt, es, snap, commit, left, wait, votes, next, mtch⟩ x2).toArray) 48 Try.underlying48 infoR
        have HRow := Lib.hid (Rest.row1 (HN3.out.rest.out0.lowCol) (lowCol_lt hzl.out) (raftL ⟨id, conf, term, vote, 2, leader, b, bt, es, snap, commit, left, wait, votes, next, mtch⟩ x2).toArray)
        have HBR2 := Lib.hid (bel_row HB3.out hz2.out (raftL ⟨id, conf, term, vote, 2, leader, b, bt, es, snap, commit, left, wait, votes, next, mtch⟩ x2).toArray)
        generalize w3.setRow (w.heap.size + 1) (raftL ⟨id, conf, term, vote, 2, leader, b, bt, es, snap, commit, left, wait, votes, next, mtch⟩ x2).toArray = WG at *
        refine bodyPost_ret (v := .tuple #[raftV ⟨id, conf, term, vote, 2, leader, b, bt, es, snap, commit, left, wait, votes, next, mtch⟩ x2, .slice none 0 0, .int .i64 0, .int .i64 1]) (by simp [results, Try.results71, asAddr, hld]) rfl ?_
        rw [HQ2.out]
        exact ⟨⟨{ x2 with oA := none, oc := 0 }, lowCol w1.heap.size col, [], ⟨_, _, _, rfl⟩, HRow.out.low (by omega)⟩, HBR2.out⟩
      have h1i : ¬ (s.size : Int) < 1 := by omega
      by_cases h2 : 4096 < s.size
      · have h2i : (4096 : Int) < (s.size : Int) := by omega
        have HQ2 := Lib.hid (show q = ⟨id, conf, term, vote, 2, leader, b, bt, es, snap, commit, left, wait, votes, next, mtch⟩ from by rw [HQ1.out, if_neg (by omega)])
        clear h1 h2
        go_wp2_with (first | (refine wpList_loadP rfl 48 (.tmp 37) rfl g rfl HN3.out.blk (raftL ⟨id, conf, term, vote, 2, leader, b, bt, es, snap, commit, left, wait, votes, next, mtch⟩ x2) rfl Try.underlying48 infoR ?_) | (refine wpList_storeB rfl 48 (.tmp 4) (.tmp 38) rfl (w.heap.size + 1) (raftL ⟨id, conf, term, vote, 2, leader, b, bt, es, snap, commit, left, wait, votes, next, mtch⟩ x2).toArray rfl rfl HZ3.out infoR rfl (raftL_one _ _) ?_))
        have hld := run_loadVarB (P := Try.prog) (HZ3.out.rowSame (raftL ⟨id, conf, term, vote, 2, leader, b, bt, es, snap, commit, left, wait, votes, next, mtch⟩ x2).toArray) 48 Try.underlying48 infoR
        have HRow := Lib.hid (Rest.row1 (HN3.out.rest.out0.lowCol) (lowCol_lt hzl.out) (raftL ⟨id, conf, term, vote, 2, leader, b, bt, es, snap, commit, left, wait, votes, next, mtch⟩ x2).toArray)
        have HBR2 := Lib.hid (bel_row HB3.out hz2.out (raftL ⟨id, conf, term, vote, 2, leader, b, bt, es, snap, commit, left, wait, votes, next, mtch⟩ x2).toArray)
        generalize w3.setRow (w.heap.size + 1) (raftL ⟨id, conf, term, vote, 2, leader, b, bt, es, snap, commit, left, wait, votes, next, mtch⟩ x2).toArray = WG at *
        refine bodyPost_ret (v := .tuple #[raftV ⟨id, conf, term, vote, 2, leader, b, bt, es, snap, commit, left, wait, votes, next, mtch⟩ x2, .slice none 0 0, .int .i64 0, .int .i64 1]) (by simp [results, Try.results71, asAddr, hld]) rfl ?_
        rw [HQ2.out]
        exact ⟨⟨{ x2 with oA := none, oc := 0 }, lowCol w1.heap.size col, [], ⟨_, _, _, rfl⟩, HRow.out.low (by omega)⟩, HBR2.out⟩
      have h2i : ¬ (4096 : Int) < (s.size : Int) := by omega
      obtain ⟨o, ho⟩ : ∃ o, o = Rf.app ⟨id, conf, term, vote, 2, leader, b, bt, es, snap, commit, left, wait, votes, next, mtch⟩ s := ⟨_, rfl⟩
      have HO := Lib.hid ho
      have HQ3 := Lib.hid (show q = if o.isSome = true then Rf.agree (Rf.own (Rf.grow ⟨id, conf, term, vote, 2, leader, b, bt, es, snap, commit, left, wait, votes, next, mtch⟩ s)) else ⟨id, conf, term, vote, 2, leader, b, bt, es, snap, commit, left, wait, votes, next, mtch⟩ from by rw [HQ1.out, if_pos (by omega), ho])
      have hrim := Tr.chk_rim HBR.out.trail
      have hlen : es.length ≤ 4096 := hrim.2.2.2.2.2.1
      obtain ⟨hfit, hnx⟩ := prop_fit HBR.out HLD.out s
      have HF := Lib.hid hfit
      have HX := Lib.hid hnx
      have HG9 : Hid (Rf.grow ⟨id, conf, term, vote, 2, leader, b, bt, es, snap, commit, left, wait, votes, next, mtch⟩ s = ⟨id, conf, term, vote, 2, leader, b, bt, o.getD es, snap, commit, left, wait, votes, next, mtch⟩) := Lib.hid (by
        unfold Rf.grow
        rw [show Rf.app ⟨id, conf, term, vote, 2, leader, b, bt, es, snap, commit, left, wait, votes, next, mtch⟩ s = o from HO.out.symm])
      have HAP : Hid (∀ W, RdE W x2.eA es → Calls Try.prog 25 #[trV b bt x2.eA es.length x2.ec, .agg #[.int .i64 term, .string s]] W fun e w' => (∃ v, e = .returned v ∧ ResT W.heap.size b bt o v w') ∧ Below W.heap.size W w') := Lib.hid (fun W hR => by
        rw [show o = (if Tr.chk b bt es = true then Tr.with_ b bt es es.length [(term, s)] else none) from HO.out]
        exact append_calls b bt term s x2.eA x2.ec es W hR (by omega) HN3.out.rest.es.le)
      clear h1 h2 ho hrim hfit hnx HQ1
      have hwz : w.heap.size ≤ g := by omega
      go_wp2_with fail
      clear kB
      have N3 := HN3
      have c2 : w3.cell? ⟨g, 2, none⟩ = some (.int .i64 term) := N3.out.blk.cells 2
      have c6 : w3.cell? ⟨g, 6, none⟩ = some (.int .i64 b) := N3.out.blk.cells 6
      have c7 : w3.cell? ⟨g, 7, none⟩ = some (.int .i64 bt) := N3.out.blk.cells 7
      have c8 : w3.cell? ⟨g, 8, none⟩ = some (.slice x2.eA es.length x2.ec) := N3.out.blk.cells 8
      have HNE : Hid (g ≠ w3.heap.size) := Lib.hid (by have := N3.out.blk.lt; omega)
      have KA := Lib.hid (N3.out.bel (bel_drew (bel_new (Below.refl w3.heap.size w3) (.cells #[.int .i64 0, .int .i64 0, .slice none 0 0] 24))))
      have KKA := Lib.hid (And.intro (KA.out.blk.cells 2) (And.intro (KA.out.blk.cells 6) (And.intro (KA.out.blk.cells 7) (KA.out.blk.cells 8))))
      go_region_held3 (fun W => W.cell? ⟨g, 2, none⟩ = some (.int .i64 term) ∧ W.cell? ⟨g, 6, none⟩ = some (.int .i64 b) ∧ W.cell? ⟨g, 7, none⟩ = some (.int .i64 bt) ∧ W.cell? ⟨g, 8, none⟩ = some (.slice x2.eA es.length x2.ec))
        (first | exact ⟨c2, c6, c7, c8⟩ | exact KK7.out | exact KKA.out | exact ⟨(N7.out.bel (bel_new (Below.refl _ _) _)).blk.cells 2, (N7.out.bel (bel_new (Below.refl _ _) _)).blk.cells 6, (N7.out.bel (bel_new (Below.refl _ _) _)).blk.cells 7, (N7.out.bel (bel_new (Below.refl _ _) _)).blk.cells 8⟩ | exact ⟨(((N7.out.blk.far HNE.out _).far HNE.out _).far HNE.out _).cells 2, (((N7.out.blk.far HNE.out _).far HNE.out _).far HNE.out _).cells 6, (((N7.out.blk.far HNE.out _).far HNE.out _).far HNE.out _).cells 7, (((N7.out.blk.far HNE.out _).far HNE.out _).far HNE.out _).cells 8⟩)
        (first
          | (go_at_call 25
             refine (HAP.out w3.drew N3.out.rest.es.rd).mono ?_
             rintro e w7 ⟨⟨v, rfl, hv⟩, hb7⟩
             obtain ⟨tb, tbt, tA, tn, tc, ok, rfl, HOK⟩ := hv.one
             have N7 := Lib.hid ((N3.out.bel (bel_drew (Below.refl _ _))).bel hb7)
             have KK7 := Lib.hid (And.intro (N7.out.blk.cells 2) (And.intro (N7.out.blk.cells 6) (And.intro (N7.out.blk.cells 7) (N7.out.blk.cells 8))))
             have HB7 := Lib.hid (bel_tr (bel_drew (Below.refl w3.heap.size w3)) hb7)
             clear hv hb7)
          | (go_at_call 25
             refine (HAP.out ((w3.alloc (.cells #[.int .i64 0, .int .i64 0, .slice none 0 0] 24)).drew) KA.out.rest.es.rd).mono ?_
             rintro e w7 ⟨⟨v, rfl, hv⟩, hb7⟩
             obtain ⟨tb, tbt, tA, tn, tc, ok, rfl, HOK⟩ := hv.one
             have N7 := Lib.hid (KA.out.bel hb7)
             have HB7 := Lib.hid (bel_tr (bel_drew (bel_new (Below.refl w3.heap.size w3) (.cells #[.int .i64 0, .int .i64 0, .slice none 0 0] 24))) hb7)
             have KK7 := Lib.hid (And.intro (N7.out.blk.cells 2) (And.intro (N7.out.blk.cells 6) (And.intro (N7.out.blk.cells 7) (N7.out.blk.cells 8))))
             have HZ7 := Lib.hid (((Blk.new w3 24 #[.int .i64 0, .int .i64 0, .slice none 0 0]).drewN 1).bel hb7)
             have z7 := HZ7.out.free
             have y7 := HZ7.out.cells
             clear hv hb7))
      · have HZ8 := Lib.hid (Blk.new w7 24 #[.int .i64 tb, .int .i64 tbt, .slice tA tn tc])
        have N8 := Lib.hid (N7.out.bel (bel_new (Below.refl _ _) (.cells #[.int .i64 tb, .int .i64 tbt, .slice tA tn tc] 24)))
        have HB86 := Lib.hid (bel_new HB7.out (.cells #[.int .i64 tb, .int .i64 tbt, .slice tA tn tc] 24))
        have HR8 : Hid (∀ es', o = some es' → tb = b ∧ tbt = bt ∧ tn = es'.length ∧ OwnE (w7.alloc (.cells #[.int .i64 tb, .int .i64 tbt, .slice tA tn tc] 24)) w3.heap.size (.slice tA tn tc) es') := Lib.hid (fun es' h => by
          obtain ⟨h1, h2, h3, h4⟩ := HOK.out.2 es' h
          exact ⟨h1, h2, h3, h4.kept (bel_new (Below.refl _ _) _)⟩)
        have HB8 := Lib.hid (bel_tr HB3.out HB86.out)
        have HZA8 := Lib.hid (HZ3.out.bel HB86.out)
        generalize hW8 : w7.alloc (.cells #[.int .i64 tb, .int .i64 tbt, .slice tA tn tc] 24) = W8 at *
        clear hW8
        have d8 := N8.out.blk.lt
        have e8 := N8.out.blk.free
        have t8 := HZ8.out.cells
        cases ok with
        | false =>
          have hon : o = none := by have := HOK.out.1; cases o with | none => rfl | some _ => cases this
          have HQ4 := Lib.hid (show q = ⟨id, conf, term, vote, 2, leader, b, bt, es, snap, commit, left, wait, votes, next, mtch⟩ from by rw [HQ3.out, hon]; rfl)
          clear hon
          go_wp2_with (first | (refine wpList_loadP rfl 48 (.tmp 59) rfl g rfl N8.out.blk (raftL ⟨id, conf, term, vote, 2, leader, b, bt, es, snap, commit, left, wait, votes, next, mtch⟩ x2) rfl Try.underlying48 infoR ?_) | (refine wpList_storeB rfl 48 (.tmp 4) (.tmp 60) rfl (w.heap.size + 1) (raftL ⟨id, conf, term, vote, 2, leader, b, bt, es, snap, commit, left, wait, votes, next, mtch⟩ x2).toArray rfl rfl HZA8.out infoR rfl (raftL_one _ _) ?_))
          have hld := run_loadVarB (P := Try.prog) (HZA8.out.rowSame (raftL ⟨id, conf, term, vote, 2, leader, b, bt, es, snap, commit, left, wait, votes, next, mtch⟩ x2).toArray) 48 Try.underlying48 infoR
          have HRow := Lib.hid (Rest.row1 (N8.out.rest.out0.lowCol) (lowCol_lt hzl.out) (raftL ⟨id, conf, term, vote, 2, leader, b, bt, es, snap, commit, left, wait, votes, next, mtch⟩ x2).toArray)
          have HBR2 := Lib.hid (bel_row HB8.out hz2.out (raftL ⟨id, conf, term, vote, 2, leader, b, bt, es, snap, commit, left, wait, votes, next, mtch⟩ x2).toArray)
          generalize W8.setRow (w.heap.size + 1) (raftL ⟨id, conf, term, vote, 2, leader, b, bt, es, snap, commit, left, wait, votes, next, mtch⟩ x2).toArray = WG at *
          refine bodyPost_ret (v := .tuple #[raftV ⟨id, conf, term, vote, 2, leader, b, bt, es, snap, commit, left, wait, votes, next, mtch⟩ x2, .slice none 0 0, .int .i64 0, .int .i64 3]) (by simp [results, Try.results71, asAddr, hld]) rfl ?_
          rw [HQ4.out]
          exact ⟨⟨{ x2 with oA := none, oc := 0 }, lowCol w1.heap.size col, [], ⟨_, _, _, rfl⟩, HRow.out.low (by omega)⟩, HBR2.out⟩
        | true =>
          obtain ⟨es', hoe⟩ : ∃ es', o = some es' := by have := HOK.out.1; cases o with | none => cases this | some e => exact ⟨e, rfl⟩
          obtain ⟨e1, e2, rfl, hOt⟩ := HR8.out es' hoe
          obtain rfl := e1.symm
          obtain rfl := e2.symm
          rw [hoe] at HQ3 HG9
          simp only [Option.getD_some] at HG9
          rw [HG9.out] at HF
          have HQ4 := Lib.hid (show q = Rf.agree (Rf.own ⟨id, conf, term, vote, 2, leader, b, bt, es', snap, commit, left, wait, votes, next, mtch⟩) from by rw [HQ3.out, HG9.out]; rfl)
          have HXq : Hid (∀ i, i < q.conf.length → q.next.getD i 0 ≤ 9223372036854775807) := Lib.hid (by rw [HQ4.out, ← HG9.out]; exact HX.out)
          have k9 := N3.out.log_new HB86.out b bt hOt
          have K9 := Lib.hid k9
          have HB9 := Lib.hid (((HB8.out.setCell (p := ⟨g, 6, none⟩) hwz (.int .i64 b)).setCell (p := ⟨g, 7, none⟩) hwz (.int .i64 bt)).setCell (p := ⟨g, 8, none⟩) hwz (.slice tA es'.length tc))
          have HZ9 := Lib.hid (((HZA8.out.far (p := ⟨g, 6, none⟩) hgne1 (.int .i64 b)).far (p := ⟨g, 7, none⟩) hgne1 (.int .i64 bt)).far (p := ⟨g, 8, none⟩) hgne1 (.slice tA es'.length tc))
          clear hoe hOt k9 HZA8
          go_wp2_with fail
          generalize (((W8.setCell ⟨g, 6, none⟩ (.int .i64 b)).setCell ⟨g, 7, none⟩ (.int .i64 bt)).setCell ⟨g, 8, none⟩ (.slice tA es'.length tc)) = w5 at *
          clear d8 e8 t8 HZ8 N8
          refine (own_calls K9 (Lib.hid HF.out.id) HF.out.c7 HF.out.next HF.out.mtch HF.out.len HF.out.l0 HF.out.l1).mono ?_
          rintro e w9 ⟨rfl, ⟨col9, hN9⟩, hb9⟩
          have N9 := Lib.hid hN9
          have HBA := Lib.hid (bel_bel HB9.out hb9 (by omega))
          have HZA := Lib.hid (HZ9.out.below hb9 (by omega))
          have HF9 := Lib.hid HF.out.own
          clear hN9 hb9 K9 HZ9 HB9
          go_wp2_with fail
          refine (agree_calls N9 HF9.out.c0 HF9.out.c7 HF9.out.mtch HF9.out.len).mono ?_
          rintro e w10 ⟨rfl, ⟨col10, hN10⟩, hb10⟩
          have HF10 := Lib.hid HF9.out.agree
          rw [← HQ4.out] at hN10 HF10
          have N10 := Lib.hid hN10
          have HB10 := Lib.hid (bel_bel HBA.out hb10 (by omega))
          have HZB := Lib.hid (HZA.out.below hb10 (by omega))
          clear hN10 hb10 N9 HZA HBA
          go_wp2_with fail
          refine (pushAll_calls N10 (by simp) HF10.out.c0 HF10.out.c7 HF10.out.next HF10.out.b0 HF10.out.len HXq).mono ?_
          rintro e w11 ⟨rfl, ⟨col11, oA11, oc11, LV, hLV, hN11⟩, hb11⟩
          rw [List.nil_append] at hN11
          have N11 := Lib.hid hN11
          have HB11 := Lib.hid (bel_bel HB10.out hb11 (by omega))
          have HZC := Lib.hid (HZB.out.below hb11 (by omega))
          clear hLV hN11 hb11 N10 HZB HB10
          go_wp2_with fail
          have NF := Lib.hid (N11.out.bel (bel_drew (Below.refl _ _)))
          have HBF := Lib.hid (bel_drew HB11.out)
          have HZF := Lib.hid (HZC.out.bel (bel_drew (Below.refl _ _)))
          have HLC := Lib.hid (nlast_calls NF HF10.out.len)
          refine wp_region_heldD (S := fun W => Blk W g 101 (nodeC q { { x2 with eA := tA, ec := tc } with oA := oA11, oc := oc11 } LV.length)) (by kernel_rfl) ?_
          have hS : Blk (w11.drew) g 101 (nodeC q { { x2 with eA := tA, ec := tc } with oA := oA11, oc := oc11 } LV.length) := NF.out.blk
          refine wpAnyH_take (i := 0) (v := .pointer (some ⟨g, 0, none⟩)) rfl (by kernel_rfl) (by kernel_rfl) (by kernel_rfl) (fun _ _ _ h => h) (Or.inl ⟨by rfl, fun W hW => by go_simp⟩) hS ?_
          try simp only [Act.put, List.getElem_toArray, List.getElem_cons_zero, List.getElem_cons_succ, List.setIfInBounds_toArray, List.set_cons_zero, List.set_cons_succ]
          refine wpAnyH_take (i := 1) (v := .pointer (some ⟨g, 0, none⟩)) rfl (by kernel_rfl) (by kernel_rfl) (by kernel_rfl) (fun _ _ _ h => h) (Or.inl ⟨by rfl, fun W hW => by go_simp⟩) hS ?_
          try simp only [Act.put, List.getElem_toArray, List.getElem_cons_zero, List.getElem_cons_succ, List.setIfInBounds_toArray, List.set_cons_zero, List.set_cons_succ]
          refine wpAnyH_take (i := 2) (v := .pointer (some ⟨g, 0, none⟩)) rfl (by kernel_rfl) (by kernel_rfl) (by kernel_rfl) (fun _ _ _ h => h) (Or.inl ⟨by rfl, fun W hW => by go_simp⟩) hS ?_
          try simp only [Act.put, List.getElem_toArray, List.getElem_cons_zero, List.getElem_cons_succ, List.setIfInBounds_toArray, List.set_cons_zero, List.set_cons_succ]
          refine wpAnyH_take (i := 3) (v := .agg (raftL q { { x2 with eA := tA, ec := tc } with oA := oA11, oc := oc11 }).toArray) rfl (by kernel_rfl) (by kernel_rfl) (by kernel_rfl) (fun _ _ _ h => h) (yieldsIf_load_mid rfl _ _ rfl g 0 rfl (raftL q { { x2 with eA := tA, ec := tc } with oA := oA11, oc := oc11 }) _ (fun W hW => Blk.range hW _ rfl) Try.underlying48 rfl infoR) hS ?_
          try simp only [Act.put, List.getElem_toArray, List.getElem_cons_zero, List.getElem_cons_succ, List.setIfInBounds_toArray, List.set_cons_zero, List.set_cons_succ]
          refine wpAnyH_take (i := 4) (v := .pointer (some ⟨g, 0, none⟩)) rfl (by kernel_rfl) (by kernel_rfl) (by kernel_rfl) (fun _ _ _ h => h) (Or.inl ⟨by rfl, fun W hW => by go_simp⟩) hS ?_
          try simp only [Act.put, List.getElem_toArray, List.getElem_cons_zero, List.getElem_cons_succ, List.setIfInBounds_toArray, List.set_cons_zero, List.set_cons_succ]
          refine wpAnyH_take (i := 5) (v := .pointer (some ⟨g, 0, none⟩)) rfl (by kernel_rfl) (by kernel_rfl) (by kernel_rfl) (fun _ _ _ h => h) (Or.inl ⟨by rfl, fun W hW => by go_simp⟩) hS ?_
          try simp only [Act.put, List.getElem_toArray, List.getElem_cons_zero, List.getElem_cons_succ, List.setIfInBounds_toArray, List.set_cons_zero, List.set_cons_succ]
          refine wpAnyH_take (i := 6) (v := .pointer (some ⟨g, 16, none⟩)) rfl (by kernel_rfl) (by kernel_rfl) (by kernel_rfl) (fun _ _ _ h => h) (Or.inl ⟨by rfl, fun W hW => by go_simp⟩) hS ?_
          try simp only [Act.put, List.getElem_toArray, List.getElem_cons_zero, List.getElem_cons_succ, List.setIfInBounds_toArray, List.set_cons_zero, List.set_cons_succ]
          refine wpAnyH_take (i := 7) (v := .slice oA11 LV.length oc11) rfl (by kernel_rfl) (by kernel_rfl) (by kernel_rfl) (fun _ _ _ h => h) (Or.inl ⟨by rfl, fun W hW => by
            have h16 : W.cell? ⟨g, 16, none⟩ = some (.slice oA11 LV.length oc11) := Blk.cells hW 16
            clear hW
            go_simp⟩) hS ?_
          try simp only [Act.put, List.getElem_toArray, List.getElem_cons_zero, List.getElem_cons_succ, List.setIfInBounds_toArray, List.set_cons_zero, List.set_cons_succ]
          refine wpAnyH_take (i := 8) (v := .pointer (some ⟨g, 0, none⟩)) rfl (by kernel_rfl) (by kernel_rfl) (by kernel_rfl) (fun _ _ _ h => h) (Or.inl ⟨by rfl, fun W hW => by go_simp⟩) hS ?_
          try simp only [Act.put, List.getElem_toArray, List.getElem_cons_zero, List.getElem_cons_succ, List.setIfInBounds_toArray, List.set_cons_zero, List.set_cons_succ]
          generalize w11.drew = WF at *
          refine wpAnyH_one (i := 9) (by kernel_rfl) rfl rfl ?_
          intro K hK
          simp only [List.getElem_toArray, List.getElem_cons_succ, List.getElem_cons_zero]
          go_simp
          refine HLC.out.mono ?_
          rintro e w12 ⟨rfl, hb12⟩
          have NG := Lib.hid (NF.out.bel hb12)
          have HBG := Lib.hid (bel_bel HBF.out hb12 (HBF.out.size))
          have HZG := Lib.hid (HZF.out.bel hb12)
          have hS := NG.out.blk
          refine hK _ _ hS ?_
          clear hK K
          try simp only [Act.put, List.getElem_toArray, List.getElem_cons_zero, List.getElem_cons_succ, List.setIfInBounds_toArray, List.set_cons_zero, List.set_cons_succ]
          refine wpAnyH_one (i := 10) (by kernel_rfl) rfl rfl ?_
          intro K hK
          simp only [List.getElem_toArray, List.getElem_cons_succ, List.getElem_cons_zero]
          refine wp_store_row _ _ _ rfl (w.heap.size + 1) (raftL q { { x2 with eA := tA, ec := tc } with oA := oA11, oc := oc11 }).toArray rfl rfl _ _ HZG.out infoR rfl (raftL_one _ _) (hK _ _ (Blk.rowFar hS hgne3 _) ?_)
          clear hK K
          try simp only [Act.put, List.getElem_toArray, List.getElem_cons_zero, List.getElem_cons_succ, List.setIfInBounds_toArray, List.set_cons_zero, List.set_cons_succ]
          have hld := run_loadVarB (P := Try.prog) (HZG.out.rowSame (raftL q { { x2 with eA := tA, ec := tc } with oA := oA11, oc := oc11 }).toArray) 48 Try.underlying48 infoR
          have HRow := Lib.hid (Rest.row1 (NG.out.rest.lowCol) (lowCol_lt hzl.out) (raftL q { { x2 with eA := tA, ec := tc } with oA := oA11, oc := oc11 }).toArray)
          have HBR2 := Lib.hid (bel_row HBG.out hz2.out (raftL q { { x2 with eA := tA, ec := tc } with oA := oA11, oc := oc11 }).toArray)
          have hS := Blk.rowFar hS hgne3 (raftL q { { x2 with eA := tA, ec := tc } with oA := oA11, oc := oc11 }).toArray
          generalize w12.setRow (w.heap.size + 1) (raftL q { { x2 with eA := tA, ec := tc } with oA := oA11, oc := oc11 }).toArray = WG at *
          refine wpAnyH_one (i := 11) (by kernel_rfl) rfl rfl ?_
          intro K hK
          go_simp
          refine hK _ _ hS ?_
          clear hK K
          try simp only [Act.put, List.getElem_toArray, List.getElem_cons_zero, List.getElem_cons_succ, List.setIfInBounds_toArray, List.set_cons_zero, List.set_cons_succ]
          refine wpAnyH_one (i := 12) (by kernel_rfl) rfl rfl ?_
          intro K hK
          go_simp
          refine hK _ _ hS ?_
          clear hK K
          try simp only [Act.put, List.getElem_toArray, List.getElem_cons_zero, List.getElem_cons_succ, List.setIfInBounds_toArray, List.set_cons_zero, List.set_cons_succ]
          refine wpAnyH_one (i := 13) (by kernel_rfl) rfl rfl ?_
          intro K hK
          go_simp
          refine hK _ _ hS ?_
          clear hK K
          try simp only [Act.put, List.getElem_toArray, List.getElem_cons_zero, List.getElem_cons_succ, List.setIfInBounds_toArray, List.set_cons_zero, List.set_cons_succ]
          refine ⟨by kernel_rfl, ?_⟩
          go_wp2_with fail
          refine bodyPost_ret (v := .tuple #[raftV q { { x2 with eA := tA, ec := tc } with oA := oA11, oc := oc11 }, .slice oA11 LV.length oc11, .int .i64 (Rf.lastN q), .int .i64 0]) (by simp [results, Try.results71, asAddr, hld]) rfl ?_
          exact ⟨⟨{ { x2 with eA := tA, ec := tc } with oA := oA11, oc := oc11 }, lowCol w1.heap.size col11, LV, ⟨_, _, _, rfl⟩, HRow.out.low (by omega)⟩, HBR2.out⟩
      · have HZ8 := Lib.hid (((HZ7.out.set 0 (.int .i64 tb)).set 1 (.int .i64 tbt)).set 2 (.slice tA tn tc))
        have HB86 := Lib.hid (bel_set (bel_set (bel_set HB7.out (g := w3.heap.size) (Nat.le_refl _) 0 (.int .i64 tb)) (g := w3.heap.size) (Nat.le_refl _) 1 (.int .i64 tbt)) (g := w3.heap.size) (Nat.le_refl _) 2 (.slice tA tn tc))
        have N8 := Lib.hid (N3.out.bel HB86.out)
        have HR8 : Hid (∀ es', o = some es' → tb = b ∧ tbt = bt ∧ tn = es'.length ∧ OwnE (((w7.setCell ⟨w3.heap.size, 0, none⟩ (.int .i64 tb)).setCell ⟨w3.heap.size, 1, none⟩ (.int .i64 tbt)).setCell ⟨w3.heap.size, 2, none⟩ (.slice tA tn tc)) w3.heap.size (.slice tA tn tc) es') := Lib.hid (fun es' h => by
          obtain ⟨h1, h2, h3, h4⟩ := HOK.out.2 es' h
          have h5 : OwnE w7 (w3.heap.size + 1) (.slice tA tn tc) es' := by simpa using h4
          exact ⟨h1, h2, h3, OwnE.low (OwnE.set (OwnE.set (OwnE.set h5 (Nat.lt_succ_self _)) (Nat.lt_succ_self _)) (Nat.lt_succ_self _)) (Nat.le_succ _)⟩)
        have HB8 := Lib.hid (bel_tr HB3.out HB86.out)
        have HZA8 := Lib.hid (HZ3.out.bel HB86.out)
        generalize hW8 : ((w7.setCell ⟨w3.heap.size, 0, none⟩ (.int .i64 tb)).setCell ⟨w3.heap.size, 1, none⟩ (.int .i64 tbt)).setCell ⟨w3.heap.size, 2, none⟩ (.slice tA tn tc) = W8 at *
        clear hW8
        have d8 := N8.out.blk.lt
        have e8 := N8.out.blk.free
        have t8 := HZ8.out.cells
        cases ok with
        | false =>
          have hon : o = none := by have := HOK.out.1; cases o with | none => rfl | some _ => cases this
          have HQ4 := Lib.hid (show q = ⟨id, conf, term, vote, 2, leader, b, bt, es, snap, commit, left, wait, votes, next, mtch⟩ from by rw [HQ3.out, hon]; rfl)
          clear hon
          go_wp2_with (first | (refine wpList_loadP rfl 48 (.tmp 59) rfl g rfl N8.out.blk (raftL ⟨id, conf, term, vote, 2, leader, b, bt, es, snap, commit, left, wait, votes, next, mtch⟩ x2) rfl Try.underlying48 infoR ?_) | (refine wpList_storeB rfl 48 (.tmp 4) (.tmp 60) rfl (w.heap.size + 1) (raftL ⟨id, conf, term, vote, 2, leader, b, bt, es, snap, commit, left, wait, votes, next, mtch⟩ x2).toArray rfl rfl HZA8.out infoR rfl (raftL_one _ _) ?_))
          have hld := run_loadVarB (P := Try.prog) (HZA8.out.rowSame (raftL ⟨id, conf, term, vote, 2, leader, b, bt, es, snap, commit, left, wait, votes, next, mtch⟩ x2).toArray) 48 Try.underlying48 infoR
          have HRow := Lib.hid (Rest.row1 (N8.out.rest.out0.lowCol) (lowCol_lt hzl.out) (raftL ⟨id, conf, term, vote, 2, leader, b, bt, es, snap, commit, left, wait, votes, next, mtch⟩ x2).toArray)
          have HBR2 := Lib.hid (bel_row HB8.out hz2.out (raftL ⟨id, conf, term, vote, 2, leader, b, bt, es, snap, commit, left, wait, votes, next, mtch⟩ x2).toArray)
          generalize W8.setRow (w.heap.size + 1) (raftL ⟨id, conf, term, vote, 2, leader, b, bt, es, snap, commit, left, wait, votes, next, mtch⟩ x2).toArray = WG at *
          refine bodyPost_ret (v := .tuple #[raftV ⟨id, conf, term, vote, 2, leader, b, bt, es, snap, commit, left, wait, votes, next, mtch⟩ x2, .slice none 0 0, .int .i64 0, .int .i64 3]) (by simp [results, Try.results71, asAddr, hld]) rfl ?_
          rw [HQ4.out]
          exact ⟨⟨{ x2 with oA := none, oc := 0 }, lowCol w1.heap.size col, [], ⟨_, _, _, rfl⟩, HRow.out.low (by omega)⟩, HBR2.out⟩
        | true =>
          obtain ⟨es', hoe⟩ : ∃ es', o = some es' := by have := HOK.out.1; cases o with | none => cases this | some e => exact ⟨e, rfl⟩
          obtain ⟨e1, e2, rfl, hOt⟩ := HR8.out es' hoe
          obtain rfl := e1.symm
          obtain rfl := e2.symm
          rw [hoe] at HQ3 HG9
          simp only [Option.getD_some] at HG9
          rw [HG9.out] at HF
          have HQ4 := Lib.hid (show q = Rf.agree (Rf.own ⟨id, conf, term, vote, 2, leader, b, bt, es', snap, commit, left, wait, votes, next, mtch⟩) from by rw [HQ3.out, HG9.out]; rfl)
          have HXq : Hid (∀ i, i < q.conf.length → q.next.getD i 0 ≤ 9223372036854775807) := Lib.hid (by rw [HQ4.out, ← HG9.out]; exact HX.out)
          have k9 := N3.out.log_new HB86.out b bt hOt
          have K9 := Lib.hid k9
          have HB9 := Lib.hid (((HB8.out.setCell (p := ⟨g, 6, none⟩) hwz (.int .i64 b)).setCell (p := ⟨g, 7, none⟩) hwz (.int .i64 bt)).setCell (p := ⟨g, 8, none⟩) hwz (.slice tA es'.length tc))
          have HZ9 := Lib.hid (((HZA8.out.far (p := ⟨g, 6, none⟩) hgne1 (.int .i64 b)).far (p := ⟨g, 7, none⟩) hgne1 (.int .i64 bt)).far (p := ⟨g, 8, none⟩) hgne1 (.slice tA es'.length tc))
          clear hoe hOt k9 HZA8
          go_wp2_with fail
          generalize (((W8.setCell ⟨g, 6, none⟩ (.int .i64 b)).setCell ⟨g, 7, none⟩ (.int .i64 bt)).setCell ⟨g, 8, none⟩ (.slice tA es'.length tc)) = w5 at *
          clear d8 e8 t8 HZ8 N8
          refine (own_calls K9 (Lib.hid HF.out.id) HF.out.c7 HF.out.next HF.out.mtch HF.out.len HF.out.l0 HF.out.l1).mono ?_
          rintro e w9 ⟨rfl, ⟨col9, hN9⟩, hb9⟩
          have N9 := Lib.hid hN9
          have HBA := Lib.hid (bel_bel HB9.out hb9 (by omega))
          have HZA := Lib.hid (HZ9.out.below hb9 (by omega))
          have HF9 := Lib.hid HF.out.own
          clear hN9 hb9 K9 HZ9 HB9
          go_wp2_with fail
          refine (agree_calls N9 HF9.out.c0 HF9.out.c7 HF9.out.mtch HF9.out.len).mono ?_
          rintro e w10 ⟨rfl, ⟨col10, hN10⟩, hb10⟩
          have HF10 := Lib.hid HF9.out.agree
          rw [← HQ4.out] at hN10 HF10
          have N10 := Lib.hid hN10
          have HB10 := Lib.hid (bel_bel HBA.out hb10 (by omega))
          have HZB := Lib.hid (HZA.out.below hb10 (by omega))
          clear hN10 hb10 N9 HZA HBA
          go_wp2_with fail
          refine (pushAll_calls N10 (by simp) HF10.out.c0 HF10.out.c7 HF10.out.next HF10.out.b0 HF10.out.len HXq).mono ?_
          rintro e w11 ⟨rfl, ⟨col11, oA11, oc11, LV, hLV, hN11⟩, hb11⟩
          rw [List.nil_append] at hN11
          have N11 := Lib.hid hN11
          have HB11 := Lib.hid (bel_bel HB10.out hb11 (by omega))
          have HZC := Lib.hid (HZB.out.below hb11 (by omega))
          clear hLV hN11 hb11 N10 HZB HB10
          go_wp2_with fail
          have NF := Lib.hid (N11.out.bel (bel_drew (Below.refl _ _)))
          have HBF := Lib.hid (bel_drew HB11.out)
          have HZF := Lib.hid (HZC.out.bel (bel_drew (Below.refl _ _)))
          have HLC := Lib.hid (nlast_calls NF HF10.out.len)
          refine wp_region_heldD (S := fun W => Blk W g 101 (nodeC q { { x2 with eA := tA, ec := tc } with oA := oA11, oc := oc11 } LV.length)) (by kernel_rfl) ?_
          have hS : Blk (w11.drew) g 101 (nodeC q { { x2 with eA := tA, ec := tc } with oA := oA11, oc := oc11 } LV.length) := NF.out.blk
          refine wpAnyH_take (i := 0) (v := .pointer (some ⟨g, 0, none⟩)) rfl (by kernel_rfl) (by kernel_rfl) (by kernel_rfl) (fun _ _ _ h => h) (Or.inl ⟨by rfl, fun W hW => by go_simp⟩) hS ?_
          try simp only [Act.put, List.getElem_toArray, List.getElem_cons_zero, List.getElem_cons_succ, List.setIfInBounds_toArray, List.set_cons_zero, List.set_cons_succ]
          refine wpAnyH_take (i := 1) (v := .pointer (some ⟨g, 0, none⟩)) rfl (by kernel_rfl) (by kernel_rfl) (by kernel_rfl) (fun _ _ _ h => h) (Or.inl ⟨by rfl, fun W hW => by go_simp⟩) hS ?_
          try simp only [Act.put, List.getElem_toArray, List.getElem_cons_zero, List.getElem_cons_succ, List.setIfInBounds_toArray, List.set_cons_zero, List.set_cons_succ]
          refine wpAnyH_take (i := 2) (v := .pointer (some ⟨g, 0, none⟩)) rfl (by kernel_rfl) (by kernel_rfl) (by kernel_rfl) (fun _ _ _ h => h) (Or.inl ⟨by rfl, fun W hW => by go_simp⟩) hS ?_
          try simp only [Act.put, List.getElem_toArray, List.getElem_cons_zero, List.getElem_cons_succ, List.setIfInBounds_toArray, List.set_cons_zero, List.set_cons_succ]
          refine wpAnyH_take (i := 3) (v := .agg (raftL q { { x2 with eA := tA, ec := tc } with oA := oA11, oc := oc11 }).toArray) rfl (by kernel_rfl) (by kernel_rfl) (by kernel_rfl) (fun _ _ _ h => h) (yieldsIf_load_mid rfl _ _ rfl g 0 rfl (raftL q { { x2 with eA := tA, ec := tc } with oA := oA11, oc := oc11 }) _ (fun W hW => Blk.range hW _ rfl) Try.underlying48 rfl infoR) hS ?_
          try simp only [Act.put, List.getElem_toArray, List.getElem_cons_zero, List.getElem_cons_succ, List.setIfInBounds_toArray, List.set_cons_zero, List.set_cons_succ]
          refine wpAnyH_take (i := 4) (v := .pointer (some ⟨g, 0, none⟩)) rfl (by kernel_rfl) (by kernel_rfl) (by kernel_rfl) (fun _ _ _ h => h) (Or.inl ⟨by rfl, fun W hW => by go_simp⟩) hS ?_
          try simp only [Act.put, List.getElem_toArray, List.getElem_cons_zero, List.getElem_cons_succ, List.setIfInBounds_toArray, List.set_cons_zero, List.set_cons_succ]
          refine wpAnyH_take (i := 5) (v := .pointer (some ⟨g, 0, none⟩)) rfl (by kernel_rfl) (by kernel_rfl) (by kernel_rfl) (fun _ _ _ h => h) (Or.inl ⟨by rfl, fun W hW => by go_simp⟩) hS ?_
          try simp only [Act.put, List.getElem_toArray, List.getElem_cons_zero, List.getElem_cons_succ, List.setIfInBounds_toArray, List.set_cons_zero, List.set_cons_succ]
          refine wpAnyH_take (i := 6) (v := .pointer (some ⟨g, 16, none⟩)) rfl (by kernel_rfl) (by kernel_rfl) (by kernel_rfl) (fun _ _ _ h => h) (Or.inl ⟨by rfl, fun W hW => by go_simp⟩) hS ?_
          try simp only [Act.put, List.getElem_toArray, List.getElem_cons_zero, List.getElem_cons_succ, List.setIfInBounds_toArray, List.set_cons_zero, List.set_cons_succ]
          refine wpAnyH_take (i := 7) (v := .slice oA11 LV.length oc11) rfl (by kernel_rfl) (by kernel_rfl) (by kernel_rfl) (fun _ _ _ h => h) (Or.inl ⟨by rfl, fun W hW => by
            have h16 : W.cell? ⟨g, 16, none⟩ = some (.slice oA11 LV.length oc11) := Blk.cells hW 16
            clear hW
            go_simp⟩) hS ?_
          try simp only [Act.put, List.getElem_toArray, List.getElem_cons_zero, List.getElem_cons_succ, List.setIfInBounds_toArray, List.set_cons_zero, List.set_cons_succ]
          refine wpAnyH_take (i := 8) (v := .pointer (some ⟨g, 0, none⟩)) rfl (by kernel_rfl) (by kernel_rfl) (by kernel_rfl) (fun _ _ _ h => h) (Or.inl ⟨by rfl, fun W hW => by go_simp⟩) hS ?_
          try simp only [Act.put, List.getElem_toArray, List.getElem_cons_zero, List.getElem_cons_succ, List.setIfInBounds_toArray, List.set_cons_zero, List.set_cons_succ]
          generalize w11.drew = WF at *
          refine wpAnyH_one (i := 9) (by kernel_rfl) rfl rfl ?_
          intro K hK
          simp only [List.getElem_toArray, List.getElem_cons_succ, List.getElem_cons_zero]
          go_simp
          refine HLC.out.mono ?_
          rintro e w12 ⟨rfl, hb12⟩
          have NG := Lib.hid (NF.out.bel hb12)
          have HBG := Lib.hid (bel_bel HBF.out hb12 (HBF.out.size))
          have HZG := Lib.hid (HZF.out.bel hb12)
          have hS := NG.out.blk
          refine hK _ _ hS ?_
          clear hK K
          try simp only [Act.put, List.getElem_toArray, List.getElem_cons_zero, List.getElem_cons_succ, List.setIfInBounds_toArray, List.set_cons_zero, List.set_cons_succ]
          refine wpAnyH_one (i := 10) (by kernel_rfl) rfl rfl ?_
          intro K hK
          simp only [List.getElem_toArray, List.getElem_cons_succ, List.getElem_cons_zero]
          refine wp_store_row _ _ _ rfl (w.heap.size + 1) (raftL q { { x2 with eA := tA, ec := tc } with oA := oA11, oc := oc11 }).toArray rfl rfl _ _ HZG.out infoR rfl (raftL_one _ _) (hK _ _ (Blk.rowFar hS hgne3 _) ?_)
          clear hK K
          try simp only [Act.put, List.getElem_toArray, List.getElem_cons_zero, List.getElem_cons_succ, List.setIfInBounds_toArray, List.set_cons_zero, List.set_cons_succ]
          have hld := run_loadVarB (P := Try.prog) (HZG.out.rowSame (raftL q { { x2 with eA := tA, ec := tc } with oA := oA11, oc := oc11 }).toArray) 48 Try.underlying48 infoR
          have HRow := Lib.hid (Rest.row1 (NG.out.rest.lowCol) (lowCol_lt hzl.out) (raftL q { { x2 with eA := tA, ec := tc } with oA := oA11, oc := oc11 }).toArray)
          have HBR2 := Lib.hid (bel_row HBG.out hz2.out (raftL q { { x2 with eA := tA, ec := tc } with oA := oA11, oc := oc11 }).toArray)
          have hS := Blk.rowFar hS hgne3 (raftL q { { x2 with eA := tA, ec := tc } with oA := oA11, oc := oc11 }).toArray
          generalize w12.setRow (w.heap.size + 1) (raftL q { { x2 with eA := tA, ec := tc } with oA := oA11, oc := oc11 }).toArray = WG at *
          refine wpAnyH_one (i := 11) (by kernel_rfl) rfl rfl ?_
          intro K hK
          go_simp
          refine hK _ _ hS ?_
          clear hK K
          try simp only [Act.put, List.getElem_toArray, List.getElem_cons_zero, List.getElem_cons_succ, List.setIfInBounds_toArray, List.set_cons_zero, List.set_cons_succ]
          refine wpAnyH_one (i := 12) (by kernel_rfl) rfl rfl ?_
          intro K hK
          go_simp
          refine hK _ _ hS ?_
          clear hK K
          try simp only [Act.put, List.getElem_toArray, List.getElem_cons_zero, List.getElem_cons_succ, List.setIfInBounds_toArray, List.set_cons_zero, List.set_cons_succ]
          refine wpAnyH_one (i := 13) (by kernel_rfl) rfl rfl ?_
          intro K hK
          go_simp
          refine hK _ _ hS ?_
          clear hK K
          try simp only [Act.put, List.getElem_toArray, List.getElem_cons_zero, List.getElem_cons_succ, List.setIfInBounds_toArray, List.set_cons_zero, List.set_cons_succ]
          refine ⟨by kernel_rfl, ?_⟩
          go_wp2_with fail
          refine bodyPost_ret (v := .tuple #[raftV q { { x2 with eA := tA, ec := tc } with oA := oA11, oc := oc11 }, .slice oA11 LV.length oc11, .int .i64 (Rf.lastN q), .int .i64 0]) (by simp [results, Try.results71, asAddr, hld]) rfl ?_
          exact ⟨⟨{ { x2 with eA := tA, ec := tc } with oA := oA11, oc := oc11 }, lowCol w1.heap.size col11, LV, ⟨_, _, _, rfl⟩, HRow.out.low (by omega)⟩, HBR2.out⟩
end Go.Proofs.Ytdladjgdhnkkcaa
