
/-
  Contracts: what is left of a node behind a crash; a new node.
  Conditions: the node can be read.
-/
import Derived.Test.YtdladjgdhnkkcaaGreatZRf24
import Derived.Deep.Cut
namespace Go.Proofs.YtdladjgdhnkkcaaGreat
open Go.RowKit
set_option linter.unusedVariables false
set_option linter.unusedSimpArgs false
set_option maxHeartbeats 20000000

/-- new memory, which a node's lists lie in -/
theorem Rest.restart {base : Nat} {col : Nat → Nat} {id : Int} {conf : List Int} {term vote role leader b bt : Int} {es : List En} {snap : ByteArray} {commit left wait : Int} {votes next mtch : List Int} {x : NdX} {w : World} (h : Rest base col ⟨id, conf, term, vote, role, leader, b, bt, es, snap, commit, left, wait, votes, next, mtch⟩ x [] w) :
    Rest base col ⟨id, conf, term, vote, 0, 0, b, bt, es, snap, b, 10, 10, [], [], []⟩ ⟨x.cA, x.cc, x.eA, x.ec, none, 0, none, 0, none, 0, none, 0⟩ [] w :=
  ((h.votes0.next0.mtch0).out0).plain ⟨id, conf, term, vote, 0, 0, b, bt, es, snap, b, 10, 10, [], [], []⟩ rfl rfl rfl rfl rfl
set_option maxRecDepth 100000 in
theorem restart_calls (r : Nod) (x : NdX) (w : World) (h : Hid (RdR w r x)) : Calls Tryz.prog 14 #[raftV r x] w (CopyR w (Rf.restart r)) := by
  have HC := Lib.hid (fun (W : World) (hb : Below w.heap.size w W) => copied_calls r x W (Lib.hid (h.out.bel hb)))
  obtain ⟨id, conf, term, vote, role, leader, b, bt, es, snap, commit, left, wait, votes, next, mtch⟩ := r
  obtain ⟨cA, cc, eA, ec, vA, vc, nA, nc, mA, mc0, oA, oc⟩ := x
  have HB1 := Lib.hid (bel_new (bel_new (Below.refl w.heap.size w) (.cells #[.int .i64 id, .slice cA conf.length cc, .int .i64 term, .int .i64 vote, .int .i64 role, .int .i64 leader, .int .i64 b, .int .i64 bt, .slice eA es.length ec, .string snap, .int .i64 commit, .int .i64 left, .int .i64 wait, .slice vA votes.length vc, .slice nA next.length nc, .slice mA mtch.length mc0] 28)) (.cells #[.int .i64 0, .slice none 0 0, .int .i64 0, .int .i64 0, .int .i64 0, .int .i64 0, .int .i64 0, .int .i64 0, .slice none 0 0, .string ⟨#[]⟩, .int .i64 0, .int .i64 0, .int .i64 0, .slice none 0 0, .slice none 0 0, .slice none 0 0] 28))
  have HR1 := Lib.hid ((Blk.new w 28 #[.int .i64 id, .slice cA conf.length cc, .int .i64 term, .int .i64 vote, .int .i64 role, .int .i64 leader, .int .i64 b, .int .i64 bt, .slice eA es.length ec, .string snap, .int .i64 commit, .int .i64 left, .int .i64 wait, .slice vA votes.length vc, .slice nA next.length nc, .slice mA mtch.length mc0]).alloc (.cells #[.int .i64 0, .slice none 0 0, .int .i64 0, .int .i64 0, .int .i64 0, .int .i64 0, .int .i64 0, .int .i64 0, .slice none 0 0, .string ⟨#[]⟩, .int .i64 0, .int .i64 0, .int .i64 0, .slice none 0 0, .slice none 0 0, .slice none 0 0] 28))
  have HZ1 := Lib.hid (Blk.new2 w (.cells #[.int .i64 id, .slice cA conf.length cc, .int .i64 term, .int .i64 vote, .int .i64 role, .int .i64 leader, .int .i64 b, .int .i64 bt, .slice eA es.length ec, .string snap, .int .i64 commit, .int .i64 left, .int .i64 wait, .slice vA votes.length vc, .slice nA next.length nc, .slice mA mtch.length mc0] 28) 28 #[.int .i64 0, .slice none 0 0, .int .i64 0, .int .i64 0, .int .i64 0, .int .i64 0, .int .i64 0, .int .i64 0, .slice none 0 0, .string ⟨#[]⟩, .int .i64 0, .int .i64 0, .int .i64 0, .slice none 0 0, .slice none 0 0, .slice none 0 0])
  have hs1 : ((w.alloc (.cells #[.int .i64 id, .slice cA conf.length cc, .int .i64 term, .int .i64 vote, .int .i64 role, .int .i64 leader, .int .i64 b, .int .i64 bt, .slice eA es.length ec, .string snap, .int .i64 commit, .int .i64 left, .int .i64 wait, .slice vA votes.length vc, .slice nA next.length nc, .slice mA mtch.length mc0] 28)).alloc (.cells #[.int .i64 0, .slice none 0 0, .int .i64 0, .int .i64 0, .int .i64 0, .int .i64 0, .int .i64 0, .int .i64 0, .slice none 0 0, .string ⟨#[]⟩, .int .i64 0, .int .i64 0, .int .i64 0, .slice none 0 0, .slice none 0 0, .slice none 0 0] 28)).heap.size = w.heap.size + 2 := by rw [size_alloc, size_alloc]
  have HS1 := Lib.hid hs1
  clear hs1
  go_enter Tryz.func14, Tryz.ntmps14
  go_wp2_with (refine wpList_loadB rfl 28 (.tmp 1) rfl w.heap.size rfl HR1.out Tryz.underlying28 infoR ?_)
  generalize (w.alloc (.cells #[.int .i64 id, .slice cA conf.length cc, .int .i64 term, .int .i64 vote, .int .i64 role, .int .i64 leader, .int .i64 b, .int .i64 bt, .slice eA es.length ec, .string snap, .int .i64 commit, .int .i64 left, .int .i64 wait, .slice vA votes.length vc, .slice nA next.length nc, .slice mA mtch.length mc0] 28)).alloc (.cells #[.int .i64 0, .slice none 0 0, .int .i64 0, .int .i64 0, .int .i64 0, .int .i64 0, .int .i64 0, .int .i64 0, .slice none 0 0, .string ⟨#[]⟩, .int .i64 0, .int .i64 0, .int .i64 0, .slice none 0 0, .slice none 0 0, .slice none 0 0] 28) = w1 at *
  refine (HC.out w1 HB1.out).mono ?_
  rintro e w2 ⟨⟨x2, col, rfl, hR2⟩, hb2⟩
  have HRT := Lib.hid hR2
  have HB2 := Lib.hid (bel_tr HB1.out hb2)
  have HR2 := Lib.hid (HR1.out.bel hb2)
  have HZ2 := Lib.hid (HZ1.out.bel hb2)
  have hlt3 : w.heap.size + 2 ≤ w1.heap.size := by rw [HS1.out]; exact Nat.le_refl _
  clear hR2 hb2 HB1 HR1 HZ1 HC
  go_upto_region 2 with (refine wpList_storeB rfl 28 (.tmp 1) (.tmp 4) rfl w.heap.size (raftL ⟨id, conf, term, vote, role, leader, b, bt, es, snap, commit, left, wait, votes, next, mtch⟩ x2).toArray rfl rfl HR2.out infoR rfl (raftL_one _ _) ?_)
  have HR3 := Lib.hid (HR2.out.rowSame (raftL ⟨id, conf, term, vote, role, leader, b, bt, es, snap, commit, left, wait, votes, next, mtch⟩ x2).toArray)
  have hne2 : w.heap.size + 1 ≠ w.heap.size := by omega
  have HZ3 := Lib.hid (HZ2.out.rowFar hne2 (raftL ⟨id, conf, term, vote, role, leader, b, bt, es, snap, commit, left, wait, votes, next, mtch⟩ x2).toArray)
  have hwr : w.heap.size < w1.heap.size := by omega
  have hwz : w.heap.size + 1 < w1.heap.size := by omega
  have HRT3 := Lib.hid (Rest.row1 HRT.out.lowCol (lowCol_lt hwr) (raftL ⟨id, conf, term, vote, role, leader, b, bt, es, snap, commit, left, wait, votes, next, mtch⟩ x2).toArray)
  have HB3 := Lib.hid (bel_row HB2.out (Nat.le_refl _) (raftL ⟨id, conf, term, vote, role, leader, b, bt, es, snap, commit, left, wait, votes, next, mtch⟩ x2).toArray)
  generalize w2.setRow w.heap.size (raftL ⟨id, conf, term, vote, role, leader, b, bt, es, snap, commit, left, wait, votes, next, mtch⟩ x2).toArray = w3 at *
  have hz : ∀ i, w3.cell? ⟨w.heap.size, i, none⟩ = (raftL ⟨id, conf, term, vote, role, leader, b, bt, es, snap, commit, left, wait, votes, next, mtch⟩ x2).toArray[i]? := HR3.out.cells
  dsimp only [raftL] at hz
  clear HRT HR2 HZ2 HB2 HR3
  go_wp2_with (refine wpList_storeB rfl 28 (.tmp 2) (.tmp 20) rfl (w.heap.size + 1) (raftL ⟨id, conf, term, vote, 0, 0, b, bt, es, snap, b, 10, 10, [], [], []⟩ ⟨x2.cA, x2.cc, x2.eA, x2.ec, none, 0, none, 0, none, 0, none, 0⟩).toArray rfl rfl HZ3.out infoR rfl (raftL_one _ _) ?_)
  have hld := run_loadVarB (P := Tryz.prog) (HZ3.out.rowSame (raftL ⟨id, conf, term, vote, 0, 0, b, bt, es, snap, b, 10, 10, [], [], []⟩ ⟨x2.cA, x2.cc, x2.eA, x2.ec, none, 0, none, 0, none, 0, none, 0⟩).toArray) 28 Tryz.underlying28 infoR
  have HRow := Lib.hid (Rest.row1 HRT3.out.restart (lowCol_lt hwz) (raftL ⟨id, conf, term, vote, 0, 0, b, bt, es, snap, b, 10, 10, [], [], []⟩ ⟨x2.cA, x2.cc, x2.eA, x2.ec, none, 0, none, 0, none, 0, none, 0⟩).toArray)
  have HBR2 := Lib.hid (bel_row HB3.out (Nat.le_succ _) (raftL ⟨id, conf, term, vote, 0, 0, b, bt, es, snap, b, 10, 10, [], [], []⟩ ⟨x2.cA, x2.cc, x2.eA, x2.ec, none, 0, none, 0, none, 0, none, 0⟩).toArray)
  generalize w3.setRow (w.heap.size + 1) (raftL ⟨id, conf, term, vote, 0, 0, b, bt, es, snap, b, 10, 10, [], [], []⟩ ⟨x2.cA, x2.cc, x2.eA, x2.ec, none, 0, none, 0, none, 0, none, 0⟩).toArray = WG at *
  refine bodyPost_ret (v := raftV ⟨id, conf, term, vote, 0, 0, b, bt, es, snap, b, 10, 10, [], [], []⟩ ⟨x2.cA, x2.cc, x2.eA, x2.ec, none, 0, none, 0, none, 0, none, 0⟩) (by simp [results, Tryz.results14, asAddr, hld, Act.put]) rfl ?_
  exact ⟨⟨⟨x2.cA, x2.cc, x2.eA, x2.ec, none, 0, none, 0, none, 0, none, 0⟩, lowCol w1.heap.size col, rfl, HRow.out.low (by omega)⟩, HBR2.out⟩

theorem zr_one : (raftL ⟨0, [], 0, 0, 0, 0, 0, 0, [], ⟨#[]⟩, 0, 0, 0, [], [], []⟩ ⟨none, 0, none, 0, none, 0, none, 0, none, 0, none, 0⟩).toArray.all (·.oneCell') = true := raftL_one _ _
/-- a node that is made -/
def Rf.fresh (id : Int) (conf : List Int) : Nod := ⟨id, conf, 0, 0, 0, 0, 0, 0, [], ByteArray.empty, 0, 10, 10, [], [], []⟩
/-- the node that is made, if it is right -/
def NewR (w : World) (id : Int) (conf : List Int) (e : Ending) (w' : World) : Prop :=
  if Rf.chk (Rf.fresh id conf) = true then (∃ x col, e = .returned (.tuple #[raftV (Rf.fresh id conf) x, .int .i64 0]) ∧ Rest w.heap.size col (Rf.fresh id conf) x [] w') ∧ Below w.heap.size w w'
  else (∃ v, e = .returned (.tuple #[.agg v, .int .i64 1]) ∧ v.size = 16 ∧ v.all (·.oneCell') = true) ∧ Below w.heap.size w w'
set_option maxRecDepth 100000 in
theorem new_calls (id : Int) (A : Option Addr) (cap : Nat) (conf : List Int) (w : World) (hR : Hid (RdI w A conf)) (hl : conf.length ≤ 20000000000000) :
    Calls Tryz.prog 16 #[.int .i64 id, .slice A conf.length cap] w (NewR w id conf) := by
  have HCL := Lib.hid (fun (W : World) (hb : Below w.heap.size w W) => cloneG_calls A cap conf W (Lib.hid (hR.out.bel hb)) hl)
  have HB1 := Lib.hid (bel_new (Below.refl w.heap.size w) (.cells #[.int .i64 0, .slice none 0 0, .int .i64 0, .int .i64 0, .int .i64 0, .int .i64 0, .int .i64 0, .int .i64 0, .slice none 0 0, .string ⟨#[]⟩, .int .i64 0, .int .i64 0, .int .i64 0, .slice none 0 0, .slice none 0 0, .slice none 0 0] 28))
  have HZ1 := Lib.hid (Blk.new w 28 #[.int .i64 0, .slice none 0 0, .int .i64 0, .int .i64 0, .int .i64 0, .int .i64 0, .int .i64 0, .int .i64 0, .slice none 0 0, .string ⟨#[]⟩, .int .i64 0, .int .i64 0, .int .i64 0, .slice none 0 0, .slice none 0 0, .slice none 0 0])
  have HS1 := Lib.hid (size_alloc w (.cells #[.int .i64 0, .slice none 0 0, .int .i64 0, .int .i64 0, .int .i64 0, .int .i64 0, .int .i64 0, .int .i64 0, .slice none 0 0, .string ⟨#[]⟩, .int .i64 0, .int .i64 0, .int .i64 0, .slice none 0 0, .slice none 0 0, .slice none 0 0] 28))
  go_enter Tryz.func16, Tryz.ntmps16
  go_wp2_with fail
  generalize w.alloc (.cells #[.int .i64 0, .slice none 0 0, .int .i64 0, .int .i64 0, .int .i64 0, .int .i64 0, .int .i64 0, .int .i64 0, .slice none 0 0, .string ⟨#[]⟩, .int .i64 0, .int .i64 0, .int .i64 0, .slice none 0 0, .slice none 0 0, .slice none 0 0] 28) = w1 at *
  refine (HCL.out w1 HB1.out).mono ?_
  rintro e w2 ⟨⟨A2, c2, rfl, ho2, hl2, hm2⟩, hb2⟩
  have hRn := Rest.conf_new (Rest.none0 w1.heap.size w1 (Nat.le_refl _) id 0 0 0 0 0 0 ByteArray.empty 0 10 10) hb2 ho2
  have HN := Lib.hid (show Rest w1.heap.size _ (Rf.fresh id conf) ⟨A2, c2, none, 0, none, 0, none, 0, none, 0, none, 0⟩ [] w2 from hRn)
  have HB2 := Lib.hid (bel_tr HB1.out hb2)
  have HZ2 := Lib.hid (HZ1.out.bel hb2)
  clear hRn ho2 hl2 hm2 hb2 HB1 HZ1 HCL
  go_upto_region 2 with (fail)
  have hbn := bel_new (Below.refl w2.heap.size w2) (.cells #[.int .i64 id, .slice A2 conf.length c2, .int .i64 0, .int .i64 0, .int .i64 0, .int .i64 0, .int .i64 0, .int .i64 0, .slice none 0 0, .string ⟨#[]⟩, .int .i64 0, .int .i64 10, .int .i64 10, .slice none 0 0, .slice none 0 0, .slice none 0 0] 28)
  have HR3 := Lib.hid (Blk.new w2 28 #[.int .i64 id, .slice A2 conf.length c2, .int .i64 0, .int .i64 0, .int .i64 0, .int .i64 0, .int .i64 0, .int .i64 0, .slice none 0 0, .string ⟨#[]⟩, .int .i64 0, .int .i64 10, .int .i64 10, .slice none 0 0, .slice none 0 0, .slice none 0 0])
  have HN3 := Lib.hid (HN.out.bel hbn)
  have HZ3 := Lib.hid (HZ2.out.bel hbn)
  have HB3 := Lib.hid (bel_tr HB2.out hbn)
  have hwz : w.heap.size < w1.heap.size := by have := HS1.out; omega
  have h12 : w1.heap.size ≤ w2.heap.size := HN.out.bs
  clear hbn HN HZ2 HB2
  generalize w2.alloc (.cells #[.int .i64 id, .slice A2 conf.length c2, .int .i64 0, .int .i64 0, .int .i64 0, .int .i64 0, .int .i64 0, .int .i64 0, .slice none 0 0, .string ⟨#[]⟩, .int .i64 0, .int .i64 10, .int .i64 10, .slice none 0 0, .slice none 0 0, .slice none 0 0] 28) = w3 at *
  have HCK := Lib.hid (rfcheck_calls (Rf.fresh id conf) ⟨A2, c2, none, 0, none, 0, none, 0, none, 0, none, 0⟩ w3 (Lib.hid (HN3.out.rdR hl (by simp [Rf.fresh]) (by simp [Rf.fresh]) (by simp [Rf.fresh]) (by simp [Rf.fresh]))))
  obtain ⟨c, hc⟩ : ∃ c, c = Rf.chk (Rf.fresh id conf) := ⟨_, rfl⟩
  rw [← hc] at HCK
  have HC := Lib.hid hc
  clear hc
  go_wp2_with (refine wpList_loadB rfl 28 (.tmp 6) rfl w2.heap.size rfl HR3.out Tryz.underlying28 infoR ?_)
  refine HCK.out.mono ?_
  rintro e w4 ⟨rfl, hb4⟩
  have HN4 := Lib.hid (HN3.out.bel hb4)
  have HZ4 := Lib.hid (HZ3.out.bel hb4)
  have HR4 := Lib.hid (HR3.out.bel hb4)
  have HB4 := Lib.hid (bel_tr HB3.out hb4)
  clear hb4 HN3 HZ3 HR3 HB3 HCK
  cases c with
  | true =>
    go_wp2_with (first | (refine wpList_loadB rfl 28 (.tmp 6) rfl w2.heap.size rfl HR4.out Tryz.underlying28 infoR ?_) | (refine wpList_storeB rfl 28 (.tmp 4) (.tmp 15) rfl w.heap.size #[.int .i64 id, .slice A2 conf.length c2, .int .i64 0, .int .i64 0, .int .i64 0, .int .i64 0, .int .i64 0, .int .i64 0, .slice none 0 0, .string ⟨#[]⟩, .int .i64 0, .int .i64 10, .int .i64 10, .slice none 0 0, .slice none 0 0, .slice none 0 0] rfl rfl HZ4.out infoR rfl (raftL_one (Rf.fresh id conf) ⟨A2, c2, none, 0, none, 0, none, 0, none, 0, none, 0⟩) ?_))
    have hld := run_loadVarB (P := Tryz.prog) (HZ4.out.rowSame #[.int .i64 id, .slice A2 conf.length c2, .int .i64 0, .int .i64 0, .int .i64 0, .int .i64 0, .int .i64 0, .int .i64 0, .slice none 0 0, .string ⟨#[]⟩, .int .i64 0, .int .i64 10, .int .i64 10, .slice none 0 0, .slice none 0 0, .slice none 0 0]) 28 Tryz.underlying28 infoR
    have HRow := Lib.hid (Rest.row1 HN4.out.lowCol (lowCol_lt hwz) #[.int .i64 id, .slice A2 conf.length c2, .int .i64 0, .int .i64 0, .int .i64 0, .int .i64 0, .int .i64 0, .int .i64 0, .slice none 0 0, .string ⟨#[]⟩, .int .i64 0, .int .i64 10, .int .i64 10, .slice none 0 0, .slice none 0 0, .slice none 0 0])
    have HBR2 := Lib.hid (bel_row HB4.out (Nat.le_refl _) #[.int .i64 id, .slice A2 conf.length c2, .int .i64 0, .int .i64 0, .int .i64 0, .int .i64 0, .int .i64 0, .int .i64 0, .slice none 0 0, .string ⟨#[]⟩, .int .i64 0, .int .i64 10, .int .i64 10, .slice none 0 0, .slice none 0 0, .slice none 0 0])
    generalize w4.setRow w.heap.size #[.int .i64 id, .slice A2 conf.length c2, .int .i64 0, .int .i64 0, .int .i64 0, .int .i64 0, .int .i64 0, .int .i64 0, .slice none 0 0, .string ⟨#[]⟩, .int .i64 0, .int .i64 10, .int .i64 10, .slice none 0 0, .slice none 0 0, .slice none 0 0] = WG at *
    refine bodyPost_ret (v := .tuple #[raftV (Rf.fresh id conf) ⟨A2, c2, none, 0, none, 0, none, 0, none, 0, none, 0⟩, .int .i64 0]) (by simp [results, Tryz.results16, asAddr, hld, Rf.fresh, ByteArray.empty, ByteArray.emptyWithCapacity]; rfl) rfl ?_
    unfold NewR
    rw [if_pos HC.out.symm]
    exact ⟨⟨⟨A2, c2, none, 0, none, 0, none, 0, none, 0, none, 0⟩, _, rfl, HRow.out.low (by omega)⟩, HBR2.out⟩
  | false =>
    go_wp2_with (refine wpList_storeB rfl 28 (.tmp 4) (.tmp 14) rfl w.heap.size #[.int .i64 0, .slice none 0 0, .int .i64 0, .int .i64 0, .int .i64 0, .int .i64 0, .int .i64 0, .int .i64 0, .slice none 0 0, .string ⟨#[]⟩, .int .i64 0, .int .i64 0, .int .i64 0, .slice none 0 0, .slice none 0 0, .slice none 0 0] rfl rfl HZ4.out infoR rfl zr_one ?_)
    have hld := run_loadVarB (P := Tryz.prog) (HZ4.out.rowSame #[.int .i64 0, .slice none 0 0, .int .i64 0, .int .i64 0, .int .i64 0, .int .i64 0, .int .i64 0, .int .i64 0, .slice none 0 0, .string ⟨#[]⟩, .int .i64 0, .int .i64 0, .int .i64 0, .slice none 0 0, .slice none 0 0, .slice none 0 0]) 28 Tryz.underlying28 infoR
    have HBR2 := Lib.hid (bel_row HB4.out (Nat.le_refl _) #[.int .i64 0, .slice none 0 0, .int .i64 0, .int .i64 0, .int .i64 0, .int .i64 0, .int .i64 0, .int .i64 0, .slice none 0 0, .string ⟨#[]⟩, .int .i64 0, .int .i64 0, .int .i64 0, .slice none 0 0, .slice none 0 0, .slice none 0 0])
    generalize w4.setRow w.heap.size #[.int .i64 0, .slice none 0 0, .int .i64 0, .int .i64 0, .int .i64 0, .int .i64 0, .int .i64 0, .int .i64 0, .slice none 0 0, .string ⟨#[]⟩, .int .i64 0, .int .i64 0, .int .i64 0, .slice none 0 0, .slice none 0 0, .slice none 0 0] = WG at *
    refine bodyPost_ret (v := .tuple #[.agg #[.int .i64 0, .slice none 0 0, .int .i64 0, .int .i64 0, .int .i64 0, .int .i64 0, .int .i64 0, .int .i64 0, .slice none 0 0, .string ⟨#[]⟩, .int .i64 0, .int .i64 0, .int .i64 0, .slice none 0 0, .slice none 0 0, .slice none 0 0], .int .i64 1]) (by simp [results, Tryz.results16, asAddr, hld]) rfl ?_
    unfold NewR
    rw [if_neg (by rw [← HC.out]; decide)]
    exact ⟨⟨#[.int .i64 0, .slice none 0 0, .int .i64 0, .int .i64 0, .int .i64 0, .int .i64 0, .int .i64 0, .int .i64 0, .slice none 0 0, .string ⟨#[]⟩, .int .i64 0, .int .i64 0, .int .i64 0, .slice none 0 0, .slice none 0 0, .slice none 0 0], rfl, rfl, zr_one⟩, HBR2.out⟩
end Go.Proofs.YtdladjgdhnkkcaaGreat
