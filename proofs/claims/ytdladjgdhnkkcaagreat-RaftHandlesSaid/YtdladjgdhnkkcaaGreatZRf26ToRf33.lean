
/-
  6 texts in one.
  Conditions: stated lemma by lemma.
-/
import Derived.Test.YtdladjgdhnkkcaaGreatZRf24
import Derived.Deep.Cut
import Derived.BigQuiet
import Derived.Test.YtdladjgdhnkkcaaGreatZTrMToTr2
import Derived.Test.YtdladjgdhnkkcaaGreatZQ4ToQ6
import Derived.Test.YtdladjgdhnkkcaaGreatZRfDToRfM
/-
  Contracts: what is left of a node behind a crash; a new node.
  Conditions: the node can be read.
-/
namespace Go.Proofs.YtdladjgdhnkkcaaGreat
open Go.RowKit
set_option linter.unusedVariables false
set_option linter.unusedSimpArgs false
set_option maxHeartbeats 20000000

/-- new memory, which a node's lists lie in -/
theorem Rest.restart {base : Nat} {col : Nat → Nat} {id : Int} {conf : List Int} {term vote role leader b bt : Int} {es : List En} {snap : ByteArray} {commit left wait : Int} {votes next mtch : List Int} {x : NdX} {w : World} (h : Rest base col ⟨id, conf, term, vote, role, leader, b, bt, es, snap, commit, left, wait, votes, next, mtch⟩ x [] w) :
    Rest base col ⟨id, conf, term, vote, 0, 0, b, bt, es, snap, b, 10, 10, [], [], []⟩ ⟨x.cA, x.cc, x.eA, x.ec, none, 0, none, 0, none, 0, none, 0⟩ [] w :=
  ((h.votes0.next0.mtch0).out0).plain ⟨id, conf, term, vote, 0, 0, b, bt, es, snap, b, 10, 10, [], [], []⟩ rfl rfl rfl rfl rfl
set_option maxRecDepth 100000 in
theorem restart_calls (r : Nod) (x : NdX) (w : World) (h : Hid (RdR w r x)) : Calls Tryz.prog 14 #[raftV r x] w (CopyR w (Rf.restart r)) := by
  have HC := Lib.hid (fun (W : World) (hb : Below w.heap.size w W) => copied_calls r x W (Lib.hid (h.out.bel hb)))
  obtain ⟨id, conf, term, vote, role, leader, b, bt, es, snap, commit, left, wait, votes, next, mtch⟩ := r
  obtain ⟨cA, cc, eA, ec, vA, vc, nA, nc, mA, mc0, oA, oc⟩ := x
  have HB1 := Lib.hid (bel_new (bel_new (Below.refl w.heap.size w) (.cells #[.int .i64 id, .slice cA conf.length cc, .int .i64 term, .int .i64 vote, .int .i64 role, .int .i64 leader, .int .i64 b, .int .i64 bt, .slice eA es.length ec, .string snap, .int .i64 commit, .int .i64 left, .int .i64 wait, .slice vA votes.length vc, .slice nA next.length nc, .slice mA mtch.length mc0] 28)) (.cells #[.int .i64 0, .slice none 0 0, .int .i64 0, .int .i64 0, .int .i64 0, .int .i64 0, .int .i64 0, .int .i64 0, .slice none 0 0, .string ⟨#[]⟩, .int .i64 0, .int .i64 0, .int .i64 0, .slice none 0 0, .slice none 0 0, .slice none 0 0] 28))
  have HR1 := Lib.hid ((Blk.new w 28 #[.int .i64 id, .slice cA conf.length cc, .int .i64 term, .int .i64 vote, .int .i64 role, .int .i64 leader, .int .i64 b, .int .i64 bt, .slice eA es.length ec, .string snap, .int .i64 commit, .int .i64 left, .int .i64 wait, .slice vA votes.length vc, .slice nA next.length nc, .slice mA mtch.length mc0]).alloc (.cells #[.int .i64 0, .slice none 0 0, .int .i64 0, .int .i64 0, .int .i64 0, .int .i64 0, .int .i64 0, .int .i64 0, .slice none 0 0, .string ⟨#[]⟩, .int .i64 0, .int .i64 0, .int .i64 0, .slice none 0 0, .slice none 0 0, .slice none 0 0] 28))
  have HZ1 := Lib.hid (Blk.new2 w (.cells #[.int .i64 id, .slice cA conf.length cc, .int .i64 term, .int .i64 vote, .int .i64 role, .int .i64 leader, .int .i64 b, .int .i64 bt, .slice eA es.length ec, .string snap, .int .i64 commit, .int .i64 left, .int .i64 wait, .slice vA votes.length vc, .slice nA next.length nc, .slice mA mtch.length mc0] 28) 28 #[.int .i64 0, .slice none 0 0, .int .i64 0, .int .i64 0, .int .i64 0, .int .i64 0, .int .i64 0, .int .i64 0, .slice none 0 0, .string ⟨#[]⟩, .int .i64 0, .int .i64 0, .int .i64 0, .slice none 0 0, .slice none 0 0, .slice none 0 0])
  have hs1 : ((w.alloc (.cells #[.int .i64 id, .slice cA conf.length cc, .int .i64 term, .int .i64 vote, .int .i64 role, .int .i64 leader, .int .i64 b, .int .i64 bt, .slice eA es.length ec, .string snap, .int .i64 commit, .int .i64 left, .int .i64 wait, .slice vA votes.length vc, .slice nA next.length nc, .slice mA mtch.length mc0] 28)).alloc (.cells #[.int .i64 0, .slice none 0 0, .int .i64 0, .int .i64 0, .int .i64 0, .int .i64 0, .int .i64 0, .int .i64 0, .slice none 0 0, .string ⟨#[]⟩, .int .i64 0, .int .i64 0, .int .i64 0, .slice none 0 0, .slice none 0 0, .slice none 0 0] 28)).heap.size = w.heap.size + 2 := by rw [size_alloc, size_alloc]
  have HS1 := Lib.hid hs1
  clear hs1
  go_enter Tryz.func14, Tryz.ntmps14
  go_wp2_with (refine wpList_loadB rfl 28 (.tmp 1) rfl w.heap.size rfl HR1.out Tryz.underlying28 infoR ?_)
  generalize (w.alloc (.cells #[.int .i64 id, .slice cA conf.length cc, .int .i64 term, .int .i64 vote, .int .i64 role, .int .i64 leader, .int .i64 b, .int .i64 bt, .slice eA es.length ec, .string snap, .int .i64 commit, .int .i64 left, .int .i64 wait, .slice vA votes.length vc, .slice nA next.length nc, .slice mA mtch.length mc0] 28)).alloc (.cells #[.int .i64 0, .slice none 0 0, .int .i64 0, .int .i64 0, .int .i64 0, .int .i64 0, .int .i64 0, .int .i64 0, .slice none 0 0, .string ⟨#[]⟩, .int .i64 0, .int .i64 0, .int .i64 0, .slice none 0 0, .slice none 0 0, .slice none 0 0] 28) = w1 at *
  refine (HC.out w1 HB1.out).mono ?_
  rintro e w2 ⟨⟨x2, col, rfl, hR2⟩, hb2⟩
  have HRT := Lib.hid hR2
  have HB2 := Lib.hid (bel_tr HB1.out hb2)
  have HR2 := Lib.hid (HR1.out.bel hb2)
  have HZ2 := Lib.hid (HZ1.out.bel hb2)
  have hlt3 : w.heap.size + 2 ≤ w1.heap.size := by rw [HS1.out]; exact Nat.le_refl _
  clear hR2 hb2 HB1 HR1 HZ1 HC
  go_upto_region 2 with (refine wpList_storeB rfl 28 (.tmp 1) (.tmp 4) rfl w.heap.size (raftL ⟨id, conf, term, vote, role, leader, b, bt, es, snap, commit, left, wait, votes, next, mtch⟩ x2).toArray rfl rfl HR2.out infoR rfl (raftL_one _ _) ?_)
  have HR3 := Lib.hid (HR2.out.rowSame (raftL ⟨id, conf, term, vote, role, leader, b, bt, es, snap, commit, left, wait, votes, next, mtch⟩ x2).toArray)
  have hne2 : w.heap.size + 1 ≠ w.heap.size := by omega
  have HZ3 := Lib.hid (HZ2.out.rowFar hne2 (raftL ⟨id, conf, term, vote, role, leader, b, bt, es, snap, commit, left, wait, votes, next, mtch⟩ x2).toArray)
  have hwr : w.heap.size < w1.heap.size := by omega
  have hwz : w.heap.size + 1 < w1.heap.size := by omega
  have HRT3 := Lib.hid (Rest.row1 HRT.out.lowCol (lowCol_lt hwr) (raftL ⟨id, conf, term, vote, role, leader, b, bt, es, snap, commit, left, wait, votes, next, mtch⟩ x2).toArray)
  have HB3 := Lib.hid (bel_row HB2.out (Nat.le_refl _) (raftL ⟨id, conf, term, vote, role, leader, b, bt, es, snap, commit, left, wait, votes, next, mtch⟩ x2).toArray)
  generalize w2.setRow w.heap.size (raftL ⟨id, conf, term, vote, role, leader, b, bt, es, snap, commit, left, wait, votes, next, mtch⟩ x2).toArray = w3 at *
  have hz : ∀ i, w3.cell? ⟨w.heap.size, i, none⟩ = (raftL ⟨id, conf, term, vote, role, leader, b, bt, es, snap, commit, left, wait, votes, next, mtch⟩ x2).toArray[i]? := HR3.out.cells
  dsimp only [raftL] at hz
  clear HRT HR2 HZ2 HB2 HR3
  go_wp2_with (refine wpList_storeB rfl 28 (.tmp 2) (.tmp 20) rfl (w.heap.size + 1) (raftL ⟨id, conf, term, vote, 0, 0, b, bt, es, snap, b, 10, 10, [], [], []⟩ ⟨x2.cA, x2.cc, x2.eA, x2.ec, none, 0, none, 0, none, 0, none, 0⟩).toArray rfl rfl HZ3.out infoR rfl (raftL_one _ _) ?_)
  have hld := run_loadVarB (P := Tryz.prog) (HZ3.out.rowSame (raftL ⟨id, conf, term, vote, 0, 0, b, bt, es, snap, b, 10, 10, [], [], []⟩ ⟨x2.cA, x2.cc, x2.eA, x2.ec, none, 0, none, 0, none, 0, none, 0⟩).toArray) 28 Tryz.underlying28 infoR
  have HRow := Lib.hid (Rest.row1 HRT3.out.restart (lowCol_lt hwz) (raftL ⟨id, conf, term, vote, 0, 0, b, bt, es, snap, b, 10, 10, [], [], []⟩ ⟨x2.cA, x2.cc, x2.eA, x2.ec, none, 0, none, 0, none, 0, none, 0⟩).toArray)
  have HBR2 := Lib.hid (bel_row HB3.out (Nat.le_succ _) (raftL ⟨id, conf, term, vote, 0, 0, b, bt, es, snap, b, 10, 10, [], [], []⟩ ⟨x2.cA, x2.cc, x2.eA, x2.ec, none, 0, none, 0, none, 0, none, 0⟩).toArray)
  generalize w3.setRow (w.heap.size + 1) (raftL ⟨id, conf, term, vote, 0, 0, b, bt, es, snap, b, 10, 10, [], [], []⟩ ⟨x2.cA, x2.cc, x2.eA, x2.ec, none, 0, none, 0, none, 0, none, 0⟩).toArray = WG at *
  refine bodyPost_ret (v := raftV ⟨id, conf, term, vote, 0, 0, b, bt, es, snap, b, 10, 10, [], [], []⟩ ⟨x2.cA, x2.cc, x2.eA, x2.ec, none, 0, none, 0, none, 0, none, 0⟩) (by simp [results, Tryz.results14, asAddr, hld, Act.put]) rfl ?_
  exact ⟨⟨⟨x2.cA, x2.cc, x2.eA, x2.ec, none, 0, none, 0, none, 0, none, 0⟩, lowCol w1.heap.size col, rfl, HRow.out.low (by omega)⟩, HBR2.out⟩

theorem zr_one : (raftL ⟨0, [], 0, 0, 0, 0, 0, 0, [], ⟨#[]⟩, 0, 0, 0, [], [], []⟩ ⟨none, 0, none, 0, none, 0, none, 0, none, 0, none, 0⟩).toArray.all (·.oneCell') = true := raftL_one _ _
/-- a node that is made -/
def Rf.fresh (id : Int) (conf : List Int) : Nod := ⟨id, conf, 0, 0, 0, 0, 0, 0, [], ByteArray.empty, 0, 10, 10, [], [], []⟩
/-- the node that is made, if it is right -/
def NewR (w : World) (id : Int) (conf : List Int) (e : Ending) (w' : World) : Prop :=
  if Rf.chk (Rf.fresh id conf) = true then (∃ x col, e = .returned (.tuple #[raftV (Rf.fresh id conf) x, .int .i64 0]) ∧ Rest w.heap.size col (Rf.fresh id conf) x [] w') ∧ Below w.heap.size w w'
  else (∃ v, e = .returned (.tuple #[.agg v, .int .i64 1]) ∧ v.size = 16 ∧ v.all (·.oneCell') = true) ∧ Below w.heap.size w w'
set_option maxRecDepth 100000 in
theorem new_calls (id : Int) (A : Option Addr) (cap : Nat) (conf : List Int) (w : World) (hR : Hid (RdI w A conf)) (hl : conf.length ≤ 20000000000000) :
    Calls Tryz.prog 16 #[.int .i64 id, .slice A conf.length cap] w (NewR w id conf) := by
  have HCL := Lib.hid (fun (W : World) (hb : Below w.heap.size w W) => cloneG_calls A cap conf W (Lib.hid (hR.out.bel hb)) hl)
  have HB1 := Lib.hid (bel_new (Below.refl w.heap.size w) (.cells #[.int .i64 0, .slice none 0 0, .int .i64 0, .int .i64 0, .int .i64 0, .int .i64 0, .int .i64 0, .int .i64 0, .slice none 0 0, .string ⟨#[]⟩, .int .i64 0, .int .i64 0, .int .i64 0, .slice none 0 0, .slice none 0 0, .slice none 0 0] 28))
  have HZ1 := Lib.hid (Blk.new w 28 #[.int .i64 0, .slice none 0 0, .int .i64 0, .int .i64 0, .int .i64 0, .int .i64 0, .int .i64 0, .int .i64 0, .slice none 0 0, .string ⟨#[]⟩, .int .i64 0, .int .i64 0, .int .i64 0, .slice none 0 0, .slice none 0 0, .slice none 0 0])
  have HS1 := Lib.hid (size_alloc w (.cells #[.int .i64 0, .slice none 0 0, .int .i64 0, .int .i64 0, .int .i64 0, .int .i64 0, .int .i64 0, .int .i64 0, .slice none 0 0, .string ⟨#[]⟩, .int .i64 0, .int .i64 0, .int .i64 0, .slice none 0 0, .slice none 0 0, .slice none 0 0] 28))
  go_enter Tryz.func16, Tryz.ntmps16
  go_wp2_with fail
  generalize w.alloc (.cells #[.int .i64 0, .slice none 0 0, .int .i64 0, .int .i64 0, .int .i64 0, .int .i64 0, .int .i64 0, .int .i64 0, .slice none 0 0, .string ⟨#[]⟩, .int .i64 0, .int .i64 0, .int .i64 0, .slice none 0 0, .slice none 0 0, .slice none 0 0] 28) = w1 at *
  refine (HCL.out w1 HB1.out).mono ?_
  rintro e w2 ⟨⟨A2, c2, rfl, ho2, hl2, hm2⟩, hb2⟩
  have hRn := Rest.conf_new (Rest.none0 w1.heap.size w1 (Nat.le_refl _) id 0 0 0 0 0 0 ByteArray.empty 0 10 10) hb2 ho2
  have HN := Lib.hid (show Rest w1.heap.size _ (Rf.fresh id conf) ⟨A2, c2, none, 0, none, 0, none, 0, none, 0, none, 0⟩ [] w2 from hRn)
  have HB2 := Lib.hid (bel_tr HB1.out hb2)
  have HZ2 := Lib.hid (HZ1.out.bel hb2)
  clear hRn ho2 hl2 hm2 hb2 HB1 HZ1 HCL
  go_upto_region 2 with (fail)
  have hbn := bel_new (Below.refl w2.heap.size w2) (.cells #[.int .i64 id, .slice A2 conf.length c2, .int .i64 0, .int .i64 0, .int .i64 0, .int .i64 0, .int .i64 0, .int .i64 0, .slice none 0 0, .string ⟨#[]⟩, .int .i64 0, .int .i64 10, .int .i64 10, .slice none 0 0, .slice none 0 0, .slice none 0 0] 28)
  have HR3 := Lib.hid (Blk.new w2 28 #[.int .i64 id, .slice A2 conf.length c2, .int .i64 0, .int .i64 0, .int .i64 0, .int .i64 0, .int .i64 0, .int .i64 0, .slice none 0 0, .string ⟨#[]⟩, .int .i64 0, .int .i64 10, .int .i64 10, .slice none 0 0, .slice none 0 0, .slice none 0 0])
  have HN3 := Lib.hid (HN.out.bel hbn)
  have HZ3 := Lib.hid (HZ2.out.bel hbn)
  have HB3 := Lib.hid (bel_tr HB2.out hbn)
  have hwz : w.heap.size < w1.heap.size := by have := HS1.out; omega
  have h12 : w1.heap.size ≤ w2.heap.size := HN.out.bs
  clear hbn HN HZ2 HB2
  generalize w2.alloc (.cells #[.int .i64 id, .slice A2 conf.length c2, .int .i64 0, .int .i64 0, .int .i64 0, .int .i64 0, .int .i64 0, .int .i64 0, .slice none 0 0, .string ⟨#[]⟩, .int .i64 0, .int .i64 10, .int .i64 10, .slice none 0 0, .slice none 0 0, .slice none 0 0] 28) = w3 at *
  have HCK := Lib.hid (rfcheck_calls (Rf.fresh id conf) ⟨A2, c2, none, 0, none, 0, none, 0, none, 0, none, 0⟩ w3 (Lib.hid (HN3.out.rdR hl (by simp [Rf.fresh]) (by simp [Rf.fresh]) (by simp [Rf.fresh]) (by simp [Rf.fresh]))))
  obtain ⟨c, hc⟩ : ∃ c, c = Rf.chk (Rf.fresh id conf) := ⟨_, rfl⟩
  rw [← hc] at HCK
  have HC := Lib.hid hc
  clear hc
  go_wp2_with (refine wpList_loadB rfl 28 (.tmp 6) rfl w2.heap.size rfl HR3.out Tryz.underlying28 infoR ?_)
  refine HCK.out.mono ?_
  rintro e w4 ⟨rfl, hb4⟩
  have HN4 := Lib.hid (HN3.out.bel hb4)
  have HZ4 := Lib.hid (HZ3.out.bel hb4)
  have HR4 := Lib.hid (HR3.out.bel hb4)
  have HB4 := Lib.hid (bel_tr HB3.out hb4)
  clear hb4 HN3 HZ3 HR3 HB3 HCK
  cases c with
  | true =>
    go_wp2_with (first | (refine wpList_loadB rfl 28 (.tmp 6) rfl w2.heap.size rfl HR4.out Tryz.underlying28 infoR ?_) | (refine wpList_storeB rfl 28 (.tmp 4) (.tmp 15) rfl w.heap.size #[.int .i64 id, .slice A2 conf.length c2, .int .i64 0, .int .i64 0, .int .i64 0, .int .i64 0, .int .i64 0, .int .i64 0, .slice none 0 0, .string ⟨#[]⟩, .int .i64 0, .int .i64 10, .int .i64 10, .slice none 0 0, .slice none 0 0, .slice none 0 0] rfl rfl HZ4.out infoR rfl (raftL_one (Rf.fresh id conf) ⟨A2, c2, none, 0, none, 0, none, 0, none, 0, none, 0⟩) ?_))
    have hld := run_loadVarB (P := Tryz.prog) (HZ4.out.rowSame #[.int .i64 id, .slice A2 conf.length c2, .int .i64 0, .int .i64 0, .int .i64 0, .int .i64 0, .int .i64 0, .int .i64 0, .slice none 0 0, .string ⟨#[]⟩, .int .i64 0, .int .i64 10, .int .i64 10, .slice none 0 0, .slice none 0 0, .slice none 0 0]) 28 Tryz.underlying28 infoR
    have HRow := Lib.hid (Rest.row1 HN4.out.lowCol (lowCol_lt hwz) #[.int .i64 id, .slice A2 conf.length c2, .int .i64 0, .int .i64 0, .int .i64 0, .int .i64 0, .int .i64 0, .int .i64 0, .slice none 0 0, .string ⟨#[]⟩, .int .i64 0, .int .i64 10, .int .i64 10, .slice none 0 0, .slice none 0 0, .slice none 0 0])
    have HBR2 := Lib.hid (bel_row HB4.out (Nat.le_refl _) #[.int .i64 id, .slice A2 conf.length c2, .int .i64 0, .int .i64 0, .int .i64 0, .int .i64 0, .int .i64 0, .int .i64 0, .slice none 0 0, .string ⟨#[]⟩, .int .i64 0, .int .i64 10, .int .i64 10, .slice none 0 0, .slice none 0 0, .slice none 0 0])
    generalize w4.setRow w.heap.size #[.int .i64 id, .slice A2 conf.length c2, .int .i64 0, .int .i64 0, .int .i64 0, .int .i64 0, .int .i64 0, .int .i64 0, .slice none 0 0, .string ⟨#[]⟩, .int .i64 0, .int .i64 10, .int .i64 10, .slice none 0 0, .slice none 0 0, .slice none 0 0] = WG at *
    refine bodyPost_ret (v := .tuple #[raftV (Rf.fresh id conf) ⟨A2, c2, none, 0, none, 0, none, 0, none, 0, none, 0⟩, .int .i64 0]) (by simp [results, Tryz.results16, asAddr, hld, Rf.fresh, ByteArray.empty, ByteArray.emptyWithCapacity]; rfl) rfl ?_
    unfold NewR
    rw [if_pos HC.out.symm]
    exact ⟨⟨⟨A2, c2, none, 0, none, 0, none, 0, none, 0, none, 0⟩, _, rfl, HRow.out.low (by omega)⟩, HBR2.out⟩
  | false =>
    go_wp2_with (refine wpList_storeB rfl 28 (.tmp 4) (.tmp 14) rfl w.heap.size #[.int .i64 0, .slice none 0 0, .int .i64 0, .int .i64 0, .int .i64 0, .int .i64 0, .int .i64 0, .int .i64 0, .slice none 0 0, .string ⟨#[]⟩, .int .i64 0, .int .i64 0, .int .i64 0, .slice none 0 0, .slice none 0 0, .slice none 0 0] rfl rfl HZ4.out infoR rfl zr_one ?_)
    have hld := run_loadVarB (P := Tryz.prog) (HZ4.out.rowSame #[.int .i64 0, .slice none 0 0, .int .i64 0, .int .i64 0, .int .i64 0, .int .i64 0, .int .i64 0, .int .i64 0, .slice none 0 0, .string ⟨#[]⟩, .int .i64 0, .int .i64 0, .int .i64 0, .slice none 0 0, .slice none 0 0, .slice none 0 0]) 28 Tryz.underlying28 infoR
    have HBR2 := Lib.hid (bel_row HB4.out (Nat.le_refl _) #[.int .i64 0, .slice none 0 0, .int .i64 0, .int .i64 0, .int .i64 0, .int .i64 0, .int .i64 0, .int .i64 0, .slice none 0 0, .string ⟨#[]⟩, .int .i64 0, .int .i64 0, .int .i64 0, .slice none 0 0, .slice none 0 0, .slice none 0 0])
    generalize w4.setRow w.heap.size #[.int .i64 0, .slice none 0 0, .int .i64 0, .int .i64 0, .int .i64 0, .int .i64 0, .int .i64 0, .int .i64 0, .slice none 0 0, .string ⟨#[]⟩, .int .i64 0, .int .i64 0, .int .i64 0, .slice none 0 0, .slice none 0 0, .slice none 0 0] = WG at *
    refine bodyPost_ret (v := .tuple #[.agg #[.int .i64 0, .slice none 0 0, .int .i64 0, .int .i64 0, .int .i64 0, .int .i64 0, .int .i64 0, .int .i64 0, .slice none 0 0, .string ⟨#[]⟩, .int .i64 0, .int .i64 0, .int .i64 0, .slice none 0 0, .slice none 0 0, .slice none 0 0], .int .i64 1]) (by simp [results, Tryz.results16, asAddr, hld]) rfl ?_
    unfold NewR
    rw [if_neg (by rw [← HC.out]; decide)]
    exact ⟨⟨#[.int .i64 0, .slice none 0 0, .int .i64 0, .int .i64 0, .int .i64 0, .int .i64 0, .int .i64 0, .int .i64 0, .slice none 0 0, .string ⟨#[]⟩, .int .i64 0, .int .i64 0, .int .i64 0, .slice none 0 0, .slice none 0 0, .slice none 0 0], rfl, rfl, zr_one⟩, HBR2.out⟩
end Go.Proofs.YtdladjgdhnkkcaaGreat

/-
  Contract: the answers that the document fixes.
  No condition.
-/

namespace Go.Proofs.YtdladjgdhnkkcaaGreat
open Go.RowKit
set_option linter.unusedVariables false
set_option linter.unusedSimpArgs false
set_option maxHeartbeats 4000000

namespace Rf
/-- a new node behind so many ticks -/
def awk (k : Nat) : Nod := if k < 10 then ⟨2, [1, 2, 3], 0, 0, 0, 0, 0, 0, [], ByteArray.empty, 0, 10 - k, 10, [], [], []⟩ else ⟨2, [1, 2, 3], 1, 2, 1, 0, 0, 0, [], ByteArray.empty, 0, 14, 14, [2], [], []⟩
def awkM : List Msg := [⟨1, 2, 1, 1, 0, 0, 0, false, [], ByteArray.empty⟩, ⟨1, 2, 3, 1, 0, 0, 0, false, [], ByteArray.empty⟩]
def awkG : Msg := ⟨2, 3, 2, 1, 0, 0, 0, true, [], ByteArray.empty⟩
theorem awk_next : ∀ k, k < 10 → (tick (awk k) 4).1 = awk (k + 1) ∧ (k = 9 → (tick (awk k) 4).2 = awkM)
  | 0, _ => ⟨by rfl, fun h => by cases h⟩
  | 1, _ => ⟨by rfl, fun h => by cases h⟩
  | 2, _ => ⟨by rfl, fun h => by cases h⟩
  | 3, _ => ⟨by rfl, fun h => by cases h⟩
  | 4, _ => ⟨by rfl, fun h => by cases h⟩
  | 5, _ => ⟨by rfl, fun h => by cases h⟩
  | 6, _ => ⟨by rfl, fun h => by cases h⟩
  | 7, _ => ⟨by rfl, fun h => by cases h⟩
  | 8, _ => ⟨by rfl, fun h => by cases h⟩
  | 9, _ => ⟨by rfl, fun _ => by rfl⟩
  | n + 10, h => absurd h (by omega)
theorem awk_hand : (handle (awk 10) awkG).1.role = 2 ∧ (handle (awk 10) awkG).2.length = 2 ∧ ((handle (awk 10) awkG).2.getD 0 default).es.length = 1 ∧ (handle (awk 10) awkG).1.es.length = 1 :=
  ⟨by rfl, by rfl, by rfl, by rfl⟩
theorem awk_sz (k : Nat) : Sz (awk k) := by
  unfold awk
  split <;> exact ⟨by simp, by simp, by simp, by simp, by simp⟩
end Rf
/-- the loop's state -/
structure WInv (w : World) (g k n : Nat) (x : NdX) (LV : List MsgV) (W : World) : Prop where
  sum : n + k = 10
  bel : Below w.heap.size w W
  lo : w.heap.size ≤ g
  lt : g < W.heap.size
  blk : Blk W g 28 (raftL (Rf.awk k) x).toArray
  rest : ∃ base col, Rest base col (Rf.awk k) x LV W
  said : k = 10 → LV.map (·.m) = Rf.awkM
theorem new_one (W : World) : Calls Tryz.prog 16 #[.int .i64 2, .slice (some ⟨W.heap.size, 0, none⟩) 3 3] (W.alloc (.cells #[.int .i64 1, .int .i64 2, .int .i64 3] 3)) fun e w' =>
    (∃ x col, e = .returned (.tuple #[raftV (Rf.awk 0) x, .int .i64 0]) ∧ Rest (W.heap.size + 1) col (Rf.awk 0) x [] w') ∧ Below W.heap.size W w' :=
  (new_calls 2 (some ⟨W.heap.size, 0, none⟩) 3 [1, 2, 3] _ (Lib.hid (rdL_lit W _ [1, 2, 3] (by decide) _ rfl)) (by decide)).mono fun e w' h => by
    unfold NewR at h
    rw [if_pos (by rfl)] at h
    obtain ⟨⟨x, col, h1, h2⟩, h3⟩ := h
    rw [size_alloc] at h2 h3
    exact ⟨⟨x, col, h1, h2⟩, bel_tr (bel_new (Below.refl _ _) _) (by rw [size_alloc]; exact h3)⟩
theorem new_two (W : World) : Calls Tryz.prog 16 #[.int .i64 4, .slice (some ⟨W.heap.size, 0, none⟩) 3 3] (W.alloc (.cells #[.int .i64 1, .int .i64 2, .int .i64 3] 3)) fun e w' =>
    (∃ v, e = .returned (.tuple #[.agg v, .int .i64 1]) ∧ v.size = 16 ∧ v.all (·.oneCell') = true) ∧ Below W.heap.size W w' :=
  (new_calls 4 (some ⟨W.heap.size, 0, none⟩) 3 [1, 2, 3] _ (Lib.hid (rdL_lit W _ [1, 2, 3] (by decide) _ rfl)) (by decide)).mono fun e w' h => by
    unfold NewR at h
    rw [if_neg (by decide)] at h
    rw [size_alloc] at h
    exact ⟨h.1, bel_tr (bel_new (Below.refl _ _) _) (by rw [size_alloc]; exact h.2)⟩
theorem Rest.rdA {base : Nat} {col : Nat → Nat} {k : Nat} {x : NdX} {L : List MsgV} {w : World} (h : Rest base col (Rf.awk k) x L w) : RdR w (Rf.awk k) x :=
  h.rdR (Rf.awk_sz k).conf (Rf.awk_sz k).es (Rf.awk_sz k).votes (Rf.awk_sz k).next (Rf.awk_sz k).mtch
/-- two messages, cell by cell -/
theorem Rest.two {base : Nat} {col : Nat → Nat} {r : Nod} {x : NdX} {LV : List MsgV} {w : World} (h : Rest base col r x LV w) {m n : Msg} (hm : LV.map (·.m) = [m, n]) :
    LV.length = 2 ∧ ∃ b c0 c1 A0 A1, x.oA = some ⟨b, 0, none⟩ ∧ b < w.heap.size ∧ (∀ r u, (MsgV.cells ⟨m, A0, c0⟩)[r]? = some u → w.cell? ⟨b, r, none⟩ = some u) ∧ (∀ r u, (MsgV.cells ⟨n, A1, c1⟩)[r]? = some u → w.cell? ⟨b, 10 + r, none⟩ = some u) := by
  match LV, hm with
  | [y0, y1], hm =>
    simp only [List.map_cons, List.map_nil, List.cons.injEq, and_true] at hm
    obtain ⟨rfl, rfl⟩ := hm
    refine ⟨rfl, ?_⟩
    obtain ⟨A, cap, hv, _, _, hR, ho⟩ := h.out.form
    injection hv with hA _ _
    subst hA
    obtain ⟨b, off, hb, hlt, h0⟩ := hR 0 (by simp)
    obtain ⟨b', off', hb', hlt', h1⟩ := hR 1 (by simp)
    rw [hb] at hb'
    injection hb' with hb'
    injection hb' with hb1 hb2
    subst hb1 hb2
    obtain ⟨_, rfl, _⟩ := ho _ _ _ hb
    exact ⟨b, y0.cap, y1.cap, y0.A, y1.A, hb, hlt, fun r u hu => by simpa using h0 r u hu, fun r u hu => by simpa [layM] using h1 r u hu⟩
set_option maxRecDepth 100000 in
set_option maxHeartbeats 20000000 in
theorem raft_awake (w : World) : Calls Tryz.prog 5 #[] w fun e w' => e = .returned (.bool true) ∧ Below w.heap.size w w' := by
  have HN1 := Lib.hid (fun W => new_one W)
  have HN2 := Lib.hid (fun W => new_two W)
  go_enter Tryz.func5, Tryz.ntmps5
  go_upto_region 1 with (fail)
  go_wp2_with fail
  refine (HN1.out w).mono ?_
  rintro e w1 ⟨⟨x1, col1, rfl, hR1⟩, hb1⟩
  have HR1 := Lib.hid hR1
  have HB1 := Lib.hid hb1
  have hlt1 : w.heap.size + 1 ≤ w1.heap.size := hR1.bs
  clear hR1 hb1
  go_upto_region 2 with (fail)
  --CONT
  have HK2 := Lib.hid (Blk.new w1 28 (raftL (Rf.awk 0) x1).toArray)
  have hbn := bel_new (Below.refl w1.heap.size w1) (.cells (raftL (Rf.awk 0) x1).toArray 28)
  have HR2 := Lib.hid (HR1.out.bel hbn)
  have HB2 := Lib.hid (bel_tr HB1.out hbn)
  have hs2 : (w1.alloc (.cells (raftL (Rf.awk 0) x1).toArray 28)).heap.size = w1.heap.size + 1 := by rw [size_alloc]
  have HS2 := Lib.hid hs2
  clear hbn hs2 HR1 HB1
  generalize w1.alloc (.cells (raftL (Rf.awk 0) x1).toArray 28) = w2 at *
  go_wp2_with fail
  refine (HN2.out w2).mono ?_
  rintro e w3 ⟨⟨v, rfl, hv, hv1⟩, hb3⟩
  have HV := Lib.hid hv
  have HK3 := Lib.hid (HK2.out.bel hb3)
  have HR3 := Lib.hid (HR2.out.bel hb3)
  have HB3 := Lib.hid (bel_tr HB2.out hb3)
  have hlt3 : w1.heap.size + 1 ≤ w3.heap.size := by have := hb3.size; have := HS2.out; omega
  clear hv hb3 HK2 HR2 HB2 HS2 HN1 HN2
  have HZ := Lib.hid (Blk.new w3 28 #[.int .i64 0, .slice none 0 0, .int .i64 0, .int .i64 0, .int .i64 0, .int .i64 0, .int .i64 0, .int .i64 0, .slice none 0 0, .string ⟨#[]⟩, .int .i64 0, .int .i64 0, .int .i64 0, .slice none 0 0, .slice none 0 0, .slice none 0 0])
  go_upto_region 3 with (refine wpList_storeB rfl 28 (.tmp 3) (.tmp 15) rfl w3.heap.size v rfl rfl HZ.out (by rw [HV.out]; exact infoR) (by rw [HV.out]; rfl) hv1 ?_)
  have hbn := bel_row (bel_new (Below.refl w3.heap.size w3) (.cells #[.int .i64 0, .slice none 0 0, .int .i64 0, .int .i64 0, .int .i64 0, .int .i64 0, .int .i64 0, .int .i64 0, .slice none 0 0, .string ⟨#[]⟩, .int .i64 0, .int .i64 0, .int .i64 0, .slice none 0 0, .slice none 0 0, .slice none 0 0] 28)) (Nat.le_refl _) v
  have hs4 : ((w3.alloc (.cells #[.int .i64 0, .slice none 0 0, .int .i64 0, .int .i64 0, .int .i64 0, .int .i64 0, .int .i64 0, .int .i64 0, .slice none 0 0, .string ⟨#[]⟩, .int .i64 0, .int .i64 0, .int .i64 0, .slice none 0 0, .slice none 0 0, .slice none 0 0] 28)).setRow w3.heap.size v).heap.size = w3.heap.size + 1 := by rw [setRow_size, size_alloc]
  have HK4 := Lib.hid (HK3.out.bel hbn)
  have HR4 := Lib.hid (HR3.out.bel hbn)
  have HB4 := Lib.hid (bel_tr HB3.out hbn)
  have hlt4 : w1.heap.size < ((w3.alloc (.cells #[.int .i64 0, .slice none 0 0, .int .i64 0, .int .i64 0, .int .i64 0, .int .i64 0, .int .i64 0, .int .i64 0, .slice none 0 0, .string ⟨#[]⟩, .int .i64 0, .int .i64 0, .int .i64 0, .slice none 0 0, .slice none 0 0, .slice none 0 0] 28)).setRow w3.heap.size v).heap.size := by omega
  clear hbn hs4 HK3 HR3 HB3 HZ hlt3 hv1 HV
  generalize (w3.alloc (.cells #[.int .i64 0, .slice none 0 0, .int .i64 0, .int .i64 0, .int .i64 0, .int .i64 0, .int .i64 0, .int .i64 0, .slice none 0 0, .string ⟨#[]⟩, .int .i64 0, .int .i64 0, .int .i64 0, .slice none 0 0, .slice none 0 0, .slice none 0 0] 28)).setRow w3.heap.size v = w4 at *
  have HI := Lib.hid (show WInv w w1.heap.size 0 10 { x1 with oA := none, oc := 0 } [] w4 from ⟨rfl, HB4.out, by omega, hlt4, HK4.out, ⟨_, _, HR4.out.out0⟩, fun h => by cases h⟩)
  clear HK4 HR4 HB4 hlt4
  go_wp2_with fail
  go_loopg [5, 6] 10 (fun n v5 v6 W => ∃ (k : Nat) (x : NdX) (LV : List MsgV), v6 = .int .i64 k ∧ v5 = .slice x.oA LV.length x.oc ∧ Hid (WInv w w1.heap.size k n x LV W))
  case atStart => exact ⟨0, { x1 with oA := none, oc := 0 }, [], rfl, rfl, HI⟩
  case round =>
    obtain ⟨k, x, LV, rfl, rfl, HK⟩ := hrel
    clear HI
    by_cases hlt : k < 10
    · have hl : (k : Int) < 10 := by omega
      obtain ⟨n, rfl⟩ : ∃ n, gk = n + 1 := ⟨gk - 1, by have := HK.out.sum; omega⟩
      obtain ⟨base, col, hR⟩ := HK.out.rest
      have HT := Lib.hid (fun (W : World) (hr : Hid (RdR W (Rf.awk k) x)) => tick_calls (Rf.awk k) x W hr 4 (by decide) (by decide))
      rw [(Rf.awk_next k hlt).1] at HT
      have HRD := Lib.hid hR.rdA
      have hwk : IntKind.i64.wrap ((k : Int) + 1) = ((k + 1 : Nat) : Int) := by rw [IntWalk.i64_in _ (by omega)]; omega
      have HWK := Lib.hid hwk
      clear hR hwk
      go_wp2_with (refine wpList_loadB rfl 28 (.tmp 1) rfl w1.heap.size rfl HK.out.blk Tryz.underlying28 infoR ?_)
      refine (HT.out _ HRD).mono ?_
      rintro e w6 ⟨⟨x6, col6, LV6, rfl, hm6, hR6⟩, hb6⟩
      have HR6 := Lib.hid hR6
      have HM6 := Lib.hid hm6
      have HK6 := Lib.hid (HK.out.blk.bel hb6)
      have HB6 := Lib.hid (bel_tr HK.out.bel hb6)
      have HLT := Lib.hid (show w1.heap.size < wr.heap.size from HK.out.lt)
      have HLT6 := Lib.hid (show w1.heap.size < w6.heap.size from Nat.lt_of_lt_of_le HK.out.lt hb6.size)
      clear hR6 hm6 hb6
      go_wp2_with (refine wpList_storeB rfl 28 (.tmp 1) (.tmp 24) rfl w1.heap.size (raftL (Rf.awk (k + 1)) x6).toArray rfl rfl HK6.out infoR rfl (raftL_one _ _) ?_)
      go_roundg n
      case rel => exact ⟨k + 1, x6, LV6, by go_num, rfl, Lib.hid ⟨by have := HK.out.sum; omega, bel_row HB6.out (by omega) _, by omega, by rw [setRow_size]; exact HLT6.out, HK6.out.rowSame _, ⟨_, _, Rest.row1 HR6.out.lowCol (lowCol_lt HLT.out) _⟩, fun h => by rw [HM6.out]; exact (Rf.awk_next k hlt).2 (by omega)⟩⟩
      case measure => omega
    · have hl : ¬ (k : Int) < 10 := by omega
      obtain rfl : gk = 0 := by have := HK.out.sum; omega
      obtain rfl : k = 10 := by have := HK.out.sum; omega
      obtain ⟨base, col, hR⟩ := HK.out.rest
      obtain ⟨hn2, b, d0, d1, A0, A1, hoA, hbl, h0, h1⟩ := hR.two (m := ⟨1, 2, 1, 1, 0, 0, 0, false, [], ByteArray.empty⟩) (n := ⟨1, 2, 3, 1, 0, 0, 0, false, [], ByteArray.empty⟩) (HK.out.said rfl)
      have k4 : wr.cell? ⟨w1.heap.size, 4, none⟩ = some (.int .i64 1) := HK.out.blk.cells 4
      have k2 : wr.cell? ⟨w1.heap.size, 2, none⟩ = some (.int .i64 1) := HK.out.blk.cells 2
      have k12 : wr.cell? ⟨w1.heap.size, 12, none⟩ = some (.int .i64 14) := HK.out.blk.cells 12
      have m0 : wr.cell? ⟨b, 0, none⟩ = some (.int .i64 1) := h0 0 _ rfl
      have m1 : wr.cell? ⟨b, 12, none⟩ = some (.int .i64 3) := h1 2 _ rfl
      have HRD := Lib.hid hR.rdA
      clear hR h0 h1
      rw [hoA, hn2]
      have HH := Lib.hid (fun (W : World) (hr : Hid (RdR W (Rf.awk 10) x)) => handle_calls (Rf.awk 10) x W hr Rf.awkG none 0 (Lib.hid ⟨Nat.le_refl _, fun i hi => absurd hi (by simp [Rf.awkG])⟩) (by simp [Rf.awkG]))
      obtain ⟨q, hq⟩ : ∃ q, q = (Rf.handle (Rf.awk 10) Rf.awkG).1 := ⟨_, rfl⟩
      obtain ⟨Ms, hMs⟩ : ∃ Ms, Ms = (Rf.handle (Rf.awk 10) Rf.awkG).2 := ⟨_, rfl⟩
      have hh := Rf.awk_hand
      rw [← hq, ← hMs] at hh HH
      have HHH := Lib.hid hh
      clear hq hMs hh
      go_wp2_with (refine wpList_loadB rfl 28 (.tmp 1) rfl w1.heap.size rfl HK.out.blk Tryz.underlying28 infoR ?_)
      refine (HH.out wr HRD).mono ?_
      rintro e w6 ⟨⟨x6, col6, LV6, rfl, hm6, hR6⟩, hb6⟩
      have HR6 := Lib.hid hR6
      have HM6 := Lib.hid hm6
      have HK6 := Lib.hid (HK.out.blk.bel hb6)
      have HB6 := Lib.hid (bel_tr HK.out.bel hb6)
      have HLT := Lib.hid (show w1.heap.size < wr.heap.size from HK.out.lt)
      clear hR6 hm6 hb6 k4 k2 k12 m0 m1 hbl
      go_upto_region 11 with (refine wpList_storeB rfl 28 (.tmp 1) (.tmp 70) rfl w1.heap.size (raftL q x6).toArray rfl rfl HK6.out infoR rfl (raftL_one _ _) ?_)
      have HR7 := Lib.hid (Rest.row1 HR6.out.lowCol (lowCol_lt HLT.out) (raftL q x6).toArray)
      have HK7 := Lib.hid (HK6.out.rowSame (raftL q x6).toArray)
      have HB7 := Lib.hid (bel_row HB6.out (show w.heap.size ≤ w1.heap.size by omega) (raftL q x6).toArray)
      generalize w6.setRow w1.heap.size (raftL q x6).toArray = w7 at *
      obtain ⟨hq1, hq2, hq3, hq4⟩ := HHH.out
      match Ms, hq2, hq3, HM6 with
      | [a0, a1], _, hq3, HM6 =>
      obtain ⟨hn6, b6, e0, e1, B0, B1, hoB, hbl6, h0, h1⟩ := HR7.out.two HM6.out
      have k4 : w7.cell? ⟨w1.heap.size, 4, none⟩ = some (.int .i64 2) := by rw [← hq1]; exact HK7.out.cells 4
      have k8 : w7.cell? ⟨w1.heap.size, 8, none⟩ = some (.slice x6.eA 1 x6.ec) := by rw [← hq4]; exact HK7.out.cells 8
      have m8 : w7.cell? ⟨b6, 8, none⟩ = some (.slice B0 1 e0) := by have := h0 8 _ rfl; rw [this, show a0.es.length = 1 from hq3]
      rw [hoB, hn6]
      clear h0 h1 HR6 HK6 HB6 HLT HR7 HK7 HK
      go_wp2_with fail
      go_ret
      exact ⟨rfl, HB7.out⟩
end Go.Proofs.YtdladjgdhnkkcaaGreat

/-
  Contract: one of the things that may come to a node.
  Conditions: the node and the message can be read.
-/
namespace Go.Proofs.YtdladjgdhnkkcaaGreat
open Go.RowKit
set_option linter.unusedVariables false
set_option linter.unusedSimpArgs false
set_option maxHeartbeats 20000000

/-- what comes to a node, as a value -/
abbrev doV (kd dr : Int) (m : Msg) (A : Option Addr) (cap : Nat) (s : ByteArray) (to : Int) : Value := .agg #[.int .i64 kd, .int .i64 dr, .int .i64 m.kind, .int .i64 m.src, .int .i64 m.dst, .int .i64 m.term, .int .i64 m.index, .int .i64 m.lterm, .int .i64 m.commit, .bool m.yes, .slice A m.es.length cap, .string m.data, .string s, .int .i64 to]
/-- what becomes of the node -/
def Rf.does (r : Nod) (kd dr : Int) (m : Msg) (s : ByteArray) (to : Int) : Nod :=
  if kd = 0 then (Rf.tick r dr).1 else if kd = 1 then (Rf.handle r { m with dst := r.id }).1 else if kd = 2 then Rf.propose r s else if kd = 3 then Rf.compact r to s else Rf.restart r
/-- a node in new memory -/
def AnsN (w : World) (r : Nod) (e : Ending) (w' : World) : Prop :=
  (∃ x col LV, e = .returned (raftV r x) ∧ Rest w.heap.size col r x LV w') ∧ Below w.heap.size w w'
end Go.Proofs.YtdladjgdhnkkcaaGreat

/-
  Arguments of the laws on nodes: a node, a message, a script.
  No condition.
-/
namespace Go.Proofs.YtdladjgdhnkkcaaGreat
open Go.ChangeShapes Go.WideShapes Go.ChangeAt Go.RowKit Go.Deep
set_option linter.unusedVariables false
set_option linter.unusedSimpArgs false

section
variable {H : Type} {enc : TypeId × Value → H} {w : World} {base : Nat} {held : Bool}
theorem leaf_entries {ts : List TypeId} {vs : List Value} (h : Leaf enc Tryz.prog w base (fun _ => true) held (23 :: ts) vs) :
    ∃ A es cap vs', vs = .slice A (List.length es) cap :: vs' ∧ List.length es ≤ cap ∧ cap ≤ 6000000000000 ∧ RdE w A es ∧ Leaf enc Tryz.prog w base (fun _ => true) held ts vs' := by
  cases vs with
  | nil => simp [Leaf] at h
  | cons v vs =>
    obtain ⟨⟨m, y, hy, hw'⟩, hr⟩ := h
    obtain ⟨A, len, cap, e, h1, _, h2, h4⟩ := open_elems (n := 2) (ts := [2, 9]) Tryz.underlying23 (by kernel_rfl) (by kernel_rfl) (by simp) hy hw'
    obtain ⟨es, rfl, hR⟩ := of_elems h1 h4
    injection e with e
    subst e
    exact ⟨A, es, cap, vs, rfl, h1, by rw [show Tryz.prog.bytesOf 68 = 24 from by kernel_rfl] at h2; unfold reachBytes at h2; omega, hR, hr⟩
theorem leaf_nums {t e : TypeId} (hu : Tryz.prog.underlying t = some (.slice e)) (hi : Tryz.prog.underlying e = some (.int .i64)) (hl : leaves Tryz.prog 1 e = some [e]) (hc : 1 = Tryz.prog.cellsOf e) (hb : Tryz.prog.bytesOf e = 8)
    {ts : List TypeId} {vs : List Value} (h : Leaf enc Tryz.prog w base (fun _ => true) held (t :: ts) vs) :
    ∃ A ks cap vs', vs = .slice A (List.length ks) cap :: vs' ∧ List.length ks ≤ cap ∧ cap ≤ 20000000000000 ∧ RdI w A ks ∧ Leaf enc Tryz.prog w base (fun _ => true) held ts vs' := by
  cases vs with
  | nil => simp [Leaf] at h
  | cons v vs =>
    obtain ⟨⟨m, y, hy, hw'⟩, hr⟩ := h
    obtain ⟨A, len, cap, e1, h1, _, h2, h4⟩ := open_elems (n := 1) (ts := [e]) hu hl hc (by simp) hy hw'
    injection e1 with e1
    subst e1
    have hx : ∀ i, i < cap → ∃ x : Int, ∃ b off, A = some ⟨b, off, none⟩ ∧ b < w.heap.size ∧ w.cell? ⟨b, off + i * 1, none⟩ = some (.int .i64 x) := fun i hi' => by
      obtain ⟨b, off, vs, rfl, hb, _, hc, hl⟩ := h4 i hi'
      obtain ⟨k, vs1, rfl, _, hl⟩ := leaf_int hi hl
      have g0 := hc 0 _ rfl
      exact ⟨k, b, off, rfl, hb, g0⟩
    have e0 : ∀ i, i < len → ((List.range len).map fun i => if hi : i < cap then (hx i hi).choose else default).getD i default = if hi : i < cap then (hx i hi).choose else default := fun i hi => by
      simp [List.getD, hi]
    refine ⟨A, (List.range len).map fun i => if hi : i < cap then (hx i hi).choose else default, cap, vs, by simp, by simpa using h1, by rw [hb] at h2; unfold reachBytes at h2; omega, fun i hi => ?_, hr⟩
    have hi' : i < len := by simpa using hi
    obtain ⟨b, off, e, hb, g0⟩ := (hx i (by omega)).choose_spec
    rw [e0 i hi', dif_pos (show i < cap by omega)]
    refine ⟨b, off, e, hb, fun r u hu => ?_⟩
    rcases r with _ | r
    · simp only [layI, List.getElem?_cons_zero, Option.some.injEq] at hu; rw [← hu]; exact g0
    · simp [layI] at hu
theorem leaf_ints {ts : List TypeId} {vs : List Value} (h : Leaf enc Tryz.prog w base (fun _ => true) held (22 :: ts) vs) :
    ∃ A ks cap vs', vs = .slice A (List.length ks) cap :: vs' ∧ List.length ks ≤ cap ∧ cap ≤ 20000000000000 ∧ RdI w A ks ∧ Leaf enc Tryz.prog w base (fun _ => true) held ts vs' :=
  leaf_nums Tryz.underlying22 Tryz.underlying3 (by kernel_rfl) (by kernel_rfl) (by kernel_rfl) h
theorem leaf_int64s {ts : List TypeId} {vs : List Value} (h : Leaf enc Tryz.prog w base (fun _ => true) held (26 :: ts) vs) :
    ∃ A ks cap vs', vs = .slice A (List.length ks) cap :: vs' ∧ List.length ks ≤ cap ∧ cap ≤ 20000000000000 ∧ RdI w A ks ∧ Leaf enc Tryz.prog w base (fun _ => true) held ts vs' :=
  leaf_nums Tryz.underlying26 Tryz.underlying2 (by kernel_rfl) (by kernel_rfl) (by kernel_rfl) h

set_option maxRecDepth 100000 in
/-- a node as an argument -/
theorem raft_arg {b0 : Nat} {v : Value} {d : DataW H} {p : List MemPlace}
    (hv : Value.okWide Tryz.prog w .any b0 28 v) (h : DataW.Trod enc Tryz.prog w base (fun _ => true) held 28 v d p) (hw : (d.weights Tryz.prog 28).all (· ≤ reachBytes) = true) :
    ∃ r x, v = raftV r x ∧ RdR w r x := by
  obtain ⟨vs, rfl, hl⟩ := open_arg (n := 3) (ts := [3, 22, 2, 3, 3, 3, 2, 2, 23, 9, 2, 3, 3, 22, 26, 26]) Tryz.underlying28 (by kernel_rfl) hv h hw
  obtain ⟨id, vs, rfl, _, hl⟩ := leaf_int Tryz.underlying3 hl
  obtain ⟨cA, conf, cc, vs, rfl, c1, c2, c3, hl⟩ := leaf_ints hl
  obtain ⟨term, vs, rfl, _, hl⟩ := leaf_int Tryz.underlying2 hl
  obtain ⟨vote, vs, rfl, _, hl⟩ := leaf_int Tryz.underlying3 hl
  obtain ⟨role, vs, rfl, _, hl⟩ := leaf_int Tryz.underlying3 hl
  obtain ⟨leader, vs, rfl, _, hl⟩ := leaf_int Tryz.underlying3 hl
  obtain ⟨b, vs, rfl, _, hl⟩ := leaf_int Tryz.underlying2 hl
  obtain ⟨bt, vs, rfl, _, hl⟩ := leaf_int Tryz.underlying2 hl
  obtain ⟨eA, es, ec, vs, rfl, e1, e2, e3, hl⟩ := leaf_entries hl
  obtain ⟨snap, vs, rfl, _, _, hl⟩ := leaf_string Tryz.underlying9 hl
  obtain ⟨commit, vs, rfl, _, hl⟩ := leaf_int Tryz.underlying2 hl
  obtain ⟨left, vs, rfl, _, hl⟩ := leaf_int Tryz.underlying3 hl
  obtain ⟨wait, vs, rfl, _, hl⟩ := leaf_int Tryz.underlying3 hl
  obtain ⟨vA, votes, vc, vs, rfl, v1, v2, v3, hl⟩ := leaf_ints hl
  obtain ⟨nA, next, nc, vs, rfl, n1, n2, n3, hl⟩ := leaf_int64s hl
  obtain ⟨mA, mtch, mc, vs, rfl, m1, m2, m3, hl⟩ := leaf_int64s hl
  obtain rfl := leaf_nil hl
  exact ⟨⟨id, conf, term, vote, role, leader, b, bt, es, snap, commit, left, wait, votes, next, mtch⟩, ⟨cA, cc, eA, ec, vA, vc, nA, nc, mA, mc, none, 0⟩, rfl,
    { conf := c3, confl := c1, confc := by show cc ≤ _; omega, conf2 := by show conf.length ≤ _; omega, es := e3, esl := e1, es2 := by show es.length ≤ _; omega, votes := v3, votesl := v1, votes2 := by show votes.length ≤ _; omega,
      next := n3, nextl := n1, next2 := by show next.length ≤ _; omega, mtch := m3, mtchl := m1, mtch2 := by show mtch.length ≤ _; omega }⟩
end
end Go.Proofs.YtdladjgdhnkkcaaGreat

/-
  Arguments of the laws on nodes: messages, a script.
  No condition.
-/
namespace Go.Proofs.YtdladjgdhnkkcaaGreat
open Go.ChangeShapes Go.WideShapes Go.ChangeAt Go.RowKit Go.Deep
set_option linter.unusedVariables false
set_option linter.unusedSimpArgs false

/-- what comes to a node -/
structure DoW where
  kd : Int
  dr : Int
  m : Msg
  A : Option Addr
  cap : Nat
  s : ByteArray
  to : Int
instance : Inhabited DoW := ⟨⟨0, 0, default, none, 0, ByteArray.empty, 0⟩⟩
def DoW.cells (d : DoW) : List Value := [.int .i64 d.kd, .int .i64 d.dr, .int .i64 d.m.kind, .int .i64 d.m.src, .int .i64 d.m.dst, .int .i64 d.m.term, .int .i64 d.m.index, .int .i64 d.m.lterm, .int .i64 d.m.commit, .bool d.m.yes, .slice d.A d.m.es.length d.cap, .string d.m.data, .string d.s, .int .i64 d.to]
def layDo : Lay DoW := ⟨14, DoW.cells, fun _ => rfl, by decide, fun x u hu => by
  simp only [DoW.cells, List.mem_cons, List.not_mem_nil, or_false] at hu
  rcases hu with rfl | rfl | rfl | rfl | rfl | rfl | rfl | rfl | rfl | rfl | rfl | rfl | rfl | rfl <;> rfl⟩
/-- its parts can be read -/
structure DoW.Ok (w : World) (d : DoW) : Prop where
  es : RdE w d.A d.m.es
  esl : d.m.es.length ≤ d.cap
  es2 : d.m.es.length ≤ 9223372036854775807
  d0 : -9223372036854775808 ≤ d.dr
  d1 : d.dr ≤ 9223372036854775807
  s2 : d.s.size ≤ 9223372036854775807
theorem DoW.Ok.bel {w w' : World} {d : DoW} (h : d.Ok w) (hb : Below w.heap.size w w') : d.Ok w' := { h with es := h.es.bel hb }

section
variable {H : Type} {enc : TypeId × Value → H} {w : World} {base : Nat} {held : Bool}
/-- elements that are read one by one -/
theorem rdL_of {α : Type} [Inhabited α] {L : Lay α} {A : Option Addr} {len cap : Nat} (hlc : len ≤ cap) {G : α → Prop}
    (hx : ∀ i, i < cap → ∃ x : α, G x ∧ ∃ b off, A = some ⟨b, off, none⟩ ∧ b < w.heap.size ∧ ∀ r u, (L.cells x)[r]? = some u → w.cell? ⟨b, off + i * L.k + r, none⟩ = some u) :
    ∃ xs : List α, xs.length = len ∧ RdL L w A xs ∧ ∀ i, i < xs.length → G (xs.getD i default) := by
  have e0 : ∀ i, i < len → ((List.range len).map fun i => if hi : i < cap then (hx i hi).choose else default).getD i default = if hi : i < cap then (hx i hi).choose else default := fun i hi => by
    simp [List.getD, hi]
  refine ⟨(List.range len).map fun i => if hi : i < cap then (hx i hi).choose else default, by simp, fun i hi => ?_, fun i hi => ?_⟩
  · have hi' : i < len := by simpa using hi
    obtain ⟨_, b, off, e, hb, hc⟩ := (hx i (by omega)).choose_spec
    rw [e0 i hi', dif_pos (show i < cap by omega)]
    exact ⟨b, off, e, hb, hc⟩
  · have hi' : i < len := by simpa using hi
    rw [e0 i hi', dif_pos (show i < cap by omega)]
    exact (hx i (by omega)).choose_spec.1

theorem at_list {w : World} {b n : Nat} {vs : List Value} (hc : ∀ j v, vs[j]? = some v → w.cell? ⟨b, n + j, none⟩ = some v) {l : List Value} (hl : l = vs) : ∀ r u, l[r]? = some u → w.cell? ⟨b, n + r, none⟩ = some u := fun r u hu => hc r u (by rw [← hl]; exact hu)

/-- the leaves of a message -/
theorem leaf_msg {ts : List TypeId} {vs : List Value} (h : Leaf enc Tryz.prog w base (fun _ => true) held (3 :: 3 :: 3 :: 2 :: 2 :: 2 :: 2 :: 4 :: 23 :: 9 :: ts) vs) :
    ∃ (m : Msg) (A : Option Addr) (cap : Nat) (vs' : List Value), vs = [.int .i64 m.kind, .int .i64 m.src, .int .i64 m.dst, .int .i64 m.term, .int .i64 m.index, .int .i64 m.lterm, .int .i64 m.commit, .bool m.yes, .slice A m.es.length cap, .string m.data] ++ vs' ∧
      m.es.length ≤ cap ∧ cap ≤ 6000000000000 ∧ RdE w A m.es ∧ Leaf enc Tryz.prog w base (fun _ => true) held ts vs' := by
  obtain ⟨k, vs, rfl, _, hl⟩ := leaf_int Tryz.underlying3 h
  obtain ⟨src, vs, rfl, _, hl⟩ := leaf_int Tryz.underlying3 hl
  obtain ⟨dst, vs, rfl, _, hl⟩ := leaf_int Tryz.underlying3 hl
  obtain ⟨term, vs, rfl, _, hl⟩ := leaf_int Tryz.underlying2 hl
  obtain ⟨index, vs, rfl, _, hl⟩ := leaf_int Tryz.underlying2 hl
  obtain ⟨lterm, vs, rfl, _, hl⟩ := leaf_int Tryz.underlying2 hl
  obtain ⟨commit, vs, rfl, _, hl⟩ := leaf_int Tryz.underlying2 hl
  obtain ⟨yes, vs, rfl, hl2⟩ := leaf_bool Tryz.underlying4 hl
  obtain ⟨A, es, cap, vs, rfl, e1, e2, e3, hl⟩ := leaf_entries hl2
  obtain ⟨data, vs, rfl, _, _, hl⟩ := leaf_string Tryz.underlying9 hl
  exact ⟨⟨k, src, dst, term, index, lterm, commit, yes, es, data⟩, A, cap, vs, rfl, e1, e2, e3, hl⟩

end
end Go.Proofs.YtdladjgdhnkkcaaGreat

/-
  A right node stays right, whatever comes; the plain law.
  Conditions: the node is right.
-/
namespace Go.Proofs.YtdladjgdhnkkcaaGreat
set_option linter.unusedVariables false

namespace Rf
theorem next_le {r : Nod} (h : Base r) (k : Role r) : r.next.length ≤ 20000000000000 := by
  have hc := (Qm.chk_asc h.conf).2.2
  rcases k with ⟨_, _, e, _⟩ | ⟨_, _, e, _⟩ | ⟨_, _, c⟩
  · rw [e]; simp
  · rw [e]; simp
  · rw [c.next]; omega
theorem mtch_le {r : Nod} (h : Base r) (k : Role r) : r.mtch.length ≤ 20000000000000 := by
  have hc := (Qm.chk_asc h.conf).2.2
  rcases k with ⟨_, _, _, e⟩ | ⟨_, _, _, e⟩ | ⟨_, _, c⟩
  · rw [e]; simp
  · rw [e]; simp
  · rw [c.mtch]; omega
end Rf
end Go.Proofs.YtdladjgdhnkkcaaGreat
