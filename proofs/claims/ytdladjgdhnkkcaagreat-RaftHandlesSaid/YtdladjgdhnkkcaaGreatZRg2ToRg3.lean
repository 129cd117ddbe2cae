
/-
  2 texts in one.
  Conditions: stated lemma by lemma.
-/
import Derived.Test.YtdladjgdhnkkcaaGreatZRg1
import Derived.Test.YtdladjgdhnkkcaaGreatZTr9ToTrR2
import Derived.Test.YtdladjgdhnkkcaaGreatZRf11
/-
  Contracts of the reference of layer 14: the node's own numbers; entries are sent.
  Conditions: the node lies in memory, its log is right.
-/
namespace Go.Proofs.YtdladjgdhnkkcaaGreat
open Go.RowKit
set_option linter.unusedVariables false
set_option linter.unusedSimpArgs false
set_option maxHeartbeats 4000000

set_option maxRecDepth 20000 in
theorem rown_calls {base g : Nat} {col : Nat → Nat} {r : Nod} {x : NdX} {L : List MsgV} {w : World} (H : Hid (Nd 36 base g col r x L w)) (hid : Hid (r.id ∈ r.conf)) (hc7 : r.conf.length ≤ 7) (hn : r.next.length = r.conf.length) (hm : r.mtch.length = r.conf.length) (hlen : r.es.length ≤ 4096) (hl0 : 0 ≤ Rf.lastN r) (hl1 : Rf.lastN r ≤ 1099511627776) :
    Calls Tryz.prog 92 #[.pointer (some ⟨g, 0, none⟩)] w (Now 36 base g (Rf.own r) x L w) := by
  have hj := Rf.idx_lt hid.out
  obtain ⟨mb, hmA, hgm, hml, hmb, hmc⟩ := H.out.mtch_blk (by omega)
  obtain ⟨nb, hnA, hgn, hnl, hnb, hnc⟩ := H.out.next_blk (by omega)
  have hmn : mb ≠ nb := fun e => by rw [e, hnc] at hmc; cases hmc
  obtain ⟨q, hq⟩ : ∃ q, q = Rf.own r := ⟨_, rfl⟩
  rw [← hq]
  have HQ := Lib.hid hq
  obtain ⟨id, conf, term, vote, role, leader, b, bt, es, snap, commit, left, wait, votes, next, mtch⟩ := r
  obtain ⟨cA, cc, eA, ec, vA, vc, nA, nc, mA, mc, oA, oc⟩ := x
  simp only at hnA hmA hj hn hm hlen hc7
  subst hnA; subst hmA
  have hC := H.out.blk.cells
  dsimp only [nodeC] at hC
  unfold Rf.own at HQ
  have HLC := Lib.hid (rlast2_calls b bt eA ec es w H.out.rest.es.rd (by omega))
  obtain ⟨ln, hln⟩ : ∃ ln, ln = Tr.lastN b bt es := ⟨_, rfl⟩
  have HQ2 : Hid (q = (⟨id, conf, term, vote, role, leader, b, bt, es, snap, commit, left, wait, votes, next.set (Rf.idx id conf) (ln + 1), mtch.set (Rf.idx id conf) ln⟩ : Nod)) := Lib.hid (by rw [HQ.out, hln]; rfl)
  have hl2 : 0 ≤ ln := by rw [hln]; exact hl0
  have hl3 : ln ≤ 1099511627776 := by rw [hln]; exact hl1
  rw [← hln] at HLC
  have HPL := Lib.hid (fun (W : World) (h : Hid (RdI W cA conf)) => place_calls ⟨id, conf, term, vote, role, leader, b, bt, es, snap, commit, left, wait, votes, next, mtch⟩ ⟨cA, cc, eA, ec, vA, vc, some ⟨nb, 0, none⟩, nc, some ⟨mb, 0, none⟩, mc, oA, oc⟩ id W h (by show conf.length ≤ _; omega) hid)
  simp only at HPL
  generalize Rf.idx id conf = j at *
  have j1 : (j : Int) < (mtch.length : Int) := by omega
  have j2 : (j : Int) < (next.length : Int) := by omega
  have hw1 : IntKind.i64.wrap (ln + 1) = ln + 1 := IntWalk.i64_in _ (by omega)
  have HGM := Lib.hid hgm
  have HGN := Lib.hid hgn
  have HMN := Lib.hid hmn
  have HMB := Lib.hid hmb
  have HNB := Lib.hid hnb
  have HNL := Lib.hid hnl
  clear hq hgm hgn hmn hmb hnb hmc hnc HQ hln hl0 hl1 hnl
  go_enter Tryz.func92, Tryz.ntmps92
  go_wp2_with fail
  refine HLC.out.mono ?_
  rintro e w1 ⟨rfl, hb1⟩
  have N1 := Lib.hid (H.out.bel hb1)
  have HB1 := Lib.hid hb1
  clear hb1 hC HLC
  have SX : Sb w1 w1.drew := Below.drew (Below.refl _ _)
  have hne : Nonempty (InS (Sb w1)) := ⟨⟨_, SX⟩⟩
  have k0 : ∀ (z : InS (Sb w1)), z.val.cell? ⟨g, 0, none⟩ = some (.int .i64 id) := fun z => (N1.out.ins z).blk.cells 0
  go_upto_region 1 with (fail)
  refine wp_region_in (Sb w1) (by kernel_rfl) (by kernel_rfl) SX ?_
  iterate 3 (go_big_quiet_step (fail))
  refine wpQuiet_loadP (C := fun w' => ∃ z : InS (Sb w1), w' = z.val) rfl 28 (.tmp 16) rfl g rfl (raftL ⟨id, conf, term, vote, role, leader, b, bt, es, snap, commit, left, wait, votes, next, mtch⟩ ⟨cA, cc, eA, ec, vA, vc, some ⟨nb, 0, none⟩, nc, some ⟨mb, 0, none⟩, mc, oA, oc⟩) (fun W hW => by obtain ⟨z, rfl⟩ := hW; exact ⟨_, _, (N1.out.ins z).blk, rfl⟩) Tryz.underlying28 infoR ?_
  simp only [Act.put, List.setIfInBounds_toArray, List.set_cons_succ, List.set_cons_zero]
  repeat (go_big_quiet_step ((go_at_call 76; exact calls_in_bel (fun _ _ h k => bel_tr h k) (HPL.out _ (Lib.hid (N1.out.ins _).rest.conf.rd.2.1)))))
  first | refine wpQuiet_nil ?_ | go_big_quiet_step (fail)
  intro W2 hW
  have hs2 := in_ok hW
  have N2 := Lib.hid (N1.out.bel hs2)
  have HB2 := Lib.hid (bel_tr HB1.out hs2)
  have hC2 : ∀ i, W2.cell? ⟨g, i, none⟩ = (#[.int .i64 id, .slice cA conf.length cc, .int .i64 term, .int .i64 vote, .int .i64 role, .int .i64 leader, .int .i64 b, .int .i64 bt, .slice eA es.length ec, .string snap, .int .i64 commit, .int .i64 left, .int .i64 wait, .slice vA votes.length vc, .slice (some ⟨nb, 0, none⟩) next.length nc, .slice (some ⟨mb, 0, none⟩) mtch.length mc, .slice oA L.length oc] : Array Value)[i]? := N2.out.blk.cells
  obtain ⟨m1, m2⟩ := N2.out.mtch_cell rfl j (by show j < mtch.length; omega)
  obtain ⟨n1, n2⟩ := N2.out.next_cell rfl j (by show j < next.length; omega)
  have hgm2 := HGM.out
  have hgn2 := HMN.out
  clear hW hs2 k0 SX hne
  go_wp2_with fail
  go_end0
  refine ⟨rfl, ⟨col, ?_⟩, ((bel_base HB2.out ?_).setCell HMB.out _).setCell HNB.out _⟩
  · rw [HQ2.out]
    exact (N2.out.mtch_set rfl j (by show j < mtch.length; omega) _).next_set rfl j (by show j < next.length; omega) _
  · exact Nat.le_trans HNB.out (Nat.le_of_lt HNL.out)

end Go.Proofs.YtdladjgdhnkkcaaGreat

/-
  Contracts of the reference of layer 14: the node's own numbers; entries are sent.
  Conditions: the node lies in memory, its log is right.
-/
namespace Go.Proofs.YtdladjgdhnkkcaaGreat
open Go.RowKit
set_option linter.unusedVariables false
set_option linter.unusedSimpArgs false
set_option maxHeartbeats 4000000

/-- the box that a log lies in, beside a node -/
theorem Far.box {g gt : Nat} {t : TypeId} {cs : Array Value} {v : Value} {w w' : World} (h : Far g v w w') (hB : Blk w gt t cs) (hg : gt ≠ g) (ho : v.ownBlock ≠ some gt) : Blk w' gt t cs := (h gt hB.lt hg ho).trans hB

set_option maxRecDepth 20000 in
theorem rpush_calls {base g : Nat} {col : Nat → Nat} {r : Nod} {x : NdX} {L : List MsgV} {w : World} (H : Hid (Nd 36 base g col r x L w)) (hL : L.length ≤ 1000) (i : Nat) (hi : i < r.conf.length) (hc7 : r.conf.length ≤ 7) (hin : i < r.next.length)
    (hb0 : 0 ≤ r.b) (hlen : r.es.length ≤ 4096) (hx : r.next.getD i 0 ≤ 9223372036854775807) :
    Calls Tryz.prog 78 #[.pointer (some ⟨g, 0, none⟩), .int .i64 i] w (Pushed 36 base g r x L (Rf.push r i) w) := by
  obtain ⟨M, hM⟩ : ∃ M, M = Rf.push r i := ⟨_, rfl⟩
  rw [← hM]
  obtain ⟨cb, co, hcA, hcl, hcc⟩ := H.out.conf_at i hi
  obtain ⟨nb, no, hnA, hnl, hnc⟩ := H.out.next_at i hin
  obtain ⟨id, conf, term, vote, role, leader, b, bt, es, snap, commit, left, wait, votes, next, mtch⟩ := r
  obtain ⟨cA, cc, eA, ec, vA, vc, nA, nc, mA, mc, oA, oc⟩ := x
  simp only at hcA hnA hi hin hcc hnc hb0 hlen hx hc7
  subst hcA; subst hnA
  have hC := H.out.blk.cells
  have hgl := H.out.blk.lt
  dsimp only [nodeC] at hC
  have i1 : (i : Int) < (conf.length : Int) := by omega
  have i2 : (i : Int) < (next.length : Int) := by omega
  unfold Rf.push at hM
  simp only at hM
  generalize hcn : conf.getD i 0 = cn at *
  have HCN := Lib.hid hcn
  clear hcn
  generalize next.getD i 0 = nx at *
  have HBT := Lib.hid (bel_new (Below.refl w.heap.size w) (.cells #[.int .i64 b, .int .i64 bt, .slice eA es.length ec] 25))
  have BT := Lib.hid (Blk.new w 25 #[.int .i64 b, .int .i64 bt, .slice eA es.length ec])
  have HBS := Lib.hid H.out.rest.bs
  have HOB : Hid ((Value.slice oA L.length oc).ownBlock ≠ some w.heap.size) := Lib.hid (fun e => by have := (H.out.rest.out.lt _ e).2; omega)
  have hneg : w.heap.size ≠ g := by omega
  go_enter Tryz.func78, Tryz.ntmps78
  go_upto_region 2 with (fail)
  have N0 := Lib.hid (H.out.bel HBT.out)
  generalize w.alloc (.cells #[.int .i64 b, .int .i64 bt, .slice eA es.length ec] 25) = w0 at *
  have hC0 : ∀ i, w0.cell? ⟨g, i, none⟩ = (#[.int .i64 id, .slice (some ⟨cb, co, none⟩) conf.length cc, .int .i64 term, .int .i64 vote, .int .i64 role, .int .i64 leader, .int .i64 b, .int .i64 bt, .slice eA es.length ec, .string snap, .int .i64 commit, .int .i64 left, .int .i64 wait, .slice vA votes.length vc, .slice (some ⟨nb, no, none⟩) next.length nc, .slice mA mtch.length mc, .slice oA L.length oc] : Array Value)[i]? := N0.out.blk.cells
  have hT0 : ∀ i, w0.cell? ⟨w.heap.size, i, none⟩ = (#[.int .i64 b, .int .i64 bt, .slice eA es.length ec] : Array Value)[i]? := BT.out.cells
  have hcc0 := N0.out.conf_cell rfl i hi HCN.out
  clear hC hcc hnc hcl hnl hgl
  by_cases hle : nx ≤ b
  · rw [if_pos hle] at hM
    have HM := Lib.hid hM
    clear hM
    go_wp2_with fail
    go_region_held3 (fun W => W.cell? ⟨g, 1, none⟩ = some (.slice (some ⟨cb, co, none⟩) conf.length cc) ∧ W.cell? ⟨cb, co + i, none⟩ = some (.int .i64 cn) ∧ W.cell? ⟨w.heap.size, 0, none⟩ = some (.int .i64 b) ∧ W.cell? ⟨w.heap.size, 1, none⟩ = some (.int .i64 bt) ∧ W.cell? ⟨g, 9, none⟩ = some (.string snap))
      (first | exact ⟨hC0 1, hcc0, hT0 0, hT0 1, hC0 9⟩ | exact KS.out)
      (first
        | (go_at_call 28
           refine (say_calls2 (base := base) (col := col) (w := w0.drew) (r := ⟨id, conf, term, vote, role, leader, b, bt, es, snap, commit, left, wait, votes, next, mtch⟩) (x := ⟨some ⟨cb, co, none⟩, cc, eA, ec, vA, vc, some ⟨nb, no, none⟩, nc, mA, mc, oA, oc⟩) (L := L) (Lib.hid (N0.out.bel (bel_drew (Below.refl _ _)))) hL ⟨5, 0, cn, 0, b, bt, 0, false, [], snap⟩ none 0 (Lib.hid ⟨Nat.le_refl _, RdZ.nil⟩)).mono ?_
           rintro e w1 ⟨⟨rfl, ⟨col1, oA1, oc1, hN1⟩, hb1⟩, hf1⟩
           have BT1 := hf1.box (BT.out.bel (bel_drew (Below.refl _ _))) hneg HOB.out
           have KS := Lib.hid (And.intro (hN1.blk.cells 1) (And.intro (hN1.conf_cell rfl i hi HCN.out) (And.intro (BT1.cells 0) (And.intro (BT1.cells 1) (hN1.blk.cells 9)))))
           have HN1 := Lib.hid hN1
           have HB1 := Lib.hid hb1
           clear hN1 hb1 hf1 BT1))
    go_wp2_with fail
    go_end0
    rw [HM.out]
    exact ⟨none, 0, rfl, ⟨col1, oA1, oc1, HN1.out⟩, (bel_base HBT.out HBS.out).trans ((bel_base (bel_drew (Below.refl _ _)) N0.out.rest.bs).trans HB1.out)⟩
  · rw [if_neg hle] at hM
    have HM := Lib.hid hM
    have hw1 : IntKind.i64.wrap (nx - 1) = nx - 1 := IntWalk.i64_in _ (by omega)
    have hlb : b < nx := by omega
    have HT := Lib.hid (rterm2_calls b bt (nx - 1) eA ec es w0 N0.out.rest.es.rd (by omega))
    clear hM hle
    go_wp2_with fail
    refine HT.out.mono ?_
    rintro e w1 ⟨rfl, hb1⟩
    have HB1 := Lib.hid hb1
    have N1 := Lib.hid (N0.out.bel hb1)
    have BT1 := Lib.hid (BT.out.bel hb1)
    have hC1 : ∀ i, w1.cell? ⟨g, i, none⟩ = (#[.int .i64 id, .slice (some ⟨cb, co, none⟩) conf.length cc, .int .i64 term, .int .i64 vote, .int .i64 role, .int .i64 leader, .int .i64 b, .int .i64 bt, .slice eA es.length ec, .string snap, .int .i64 commit, .int .i64 left, .int .i64 wait, .slice vA votes.length vc, .slice (some ⟨nb, no, none⟩) next.length nc, .slice mA mtch.length mc, .slice oA L.length oc] : Array Value)[i]? := N1.out.blk.cells
    have hT1 : ∀ i, w1.cell? ⟨w.heap.size, i, none⟩ = (#[.int .i64 b, .int .i64 bt, .slice eA es.length ec] : Array Value)[i]? := BT1.out.cells
    have hcc1 := N1.out.conf_cell rfl i hi HCN.out
    clear hb1 hC0 hT0 hcc0 HT
    obtain ⟨tm, htm⟩ : ∃ tm, tm = Rf.trm0 (⟨id, conf, term, vote, role, leader, b, bt, es, snap, commit, left, wait, votes, next, mtch⟩) (nx - 1) := ⟨_, rfl⟩
    have htm' : (if Tr.has b bt es (nx - 1) = true then Tr.trm b bt es (nx - 1) else 0) = tm := htm.symm
    simp only [htm']
    rw [← htm] at HM
    clear htm htm'
    go_upto_region 5 with (fail)
    go_region_held3 (fun W => W.cell? ⟨g, 1, none⟩ = some (.slice (some ⟨cb, co, none⟩) conf.length cc) ∧ W.cell? ⟨cb, co + i, none⟩ = some (.int .i64 cn) ∧ W.cell? ⟨w.heap.size, 0, none⟩ = some (.int .i64 b) ∧ W.cell? ⟨w.heap.size, 1, none⟩ = some (.int .i64 bt) ∧ W.cell? ⟨w.heap.size, 2, none⟩ = some (.slice eA es.length ec) ∧ W.cell? ⟨g, 10, none⟩ = some (.int .i64 commit))
      (first | exact ⟨hC1 1, hcc1, hT1 0, hT1 1, hT1 2, hC1 10⟩ | exact KS.out | exact KT.out)
      (first
        | (go_at_call 94
           refine (rslice_calls2 b bt nx 8 eA ec es w1.drew (N1.out.rest.es.rd) (by omega) N1.out.rest.es.le).mono ?_
           rintro e w2 ⟨⟨A2, cap2, rfl, hO2⟩, hb2⟩
           have N2 := Lib.hid (((N1.out.bel (bel_drew (Below.refl _ _))).recol 0).bel hb2)
           have HB2 := Lib.hid hb2
           have BT2 := Lib.hid ((BT1.out.bel (bel_drew (Below.refl _ _))).bel hb2)
           have HR2 : Hid (_ ∧ RdZ base (recol col w1.drew.heap.size 0) w2 A2 cap2 _) := Lib.hid ⟨hO2.rd.1, RdZ.new (w := w1.drew) hO2 N1.out.rest.bs⟩
           have KS := Lib.hid (And.intro (N2.out.blk.cells 1) (And.intro (N2.out.conf_cell rfl i hi HCN.out) (And.intro (BT2.out.cells 0) (And.intro (BT2.out.cells 1) (And.intro (BT2.out.cells 2) (N2.out.blk.cells 10))))))
           clear hb2 hO2)
        | (go_at_call 28
           refine (say_calls2 (base := base) (w := w2) (r := ⟨id, conf, term, vote, role, leader, b, bt, es, snap, commit, left, wait, votes, next, mtch⟩) (x := ⟨some ⟨cb, co, none⟩, cc, eA, ec, vA, vc, some ⟨nb, no, none⟩, nc, mA, mc, oA, oc⟩) (L := L) N2 hL ⟨3, 0, cn, 0, nx - 1, tm, commit, false, Tr.cutFrom b bt es nx 8, ByteArray.empty⟩ A2 cap2 HR2).mono ?_
           rintro e w3 ⟨⟨rfl, ⟨col1, oA1, oc1, hN3⟩, hb3⟩, hf3⟩
           have BT3 := hf3.box BT2.out hneg HOB.out
           have KT := Lib.hid (And.intro (hN3.blk.cells 1) (And.intro (hN3.conf_cell rfl i hi HCN.out) (And.intro (BT3.cells 0) (And.intro (BT3.cells 1) (And.intro (BT3.cells 2) (hN3.blk.cells 10))))))
           have HN3 := Lib.hid hN3
           have HB3 := Lib.hid hb3
           clear hN3 hb3 hf3 BT3))
    go_wp2_with fail
    go_end0
    rw [HM.out]
    exact ⟨A2, cap2, rfl, ⟨col1, oA1, oc1, HN3.out⟩, ((bel_base (bel_tr HBT.out HB1.out) HBS.out).trans (bel_base (bel_tr (bel_drew (Below.refl _ _)) HB2.out) N1.out.rest.bs)).trans HB3.out⟩

theorem PInv.to {t : TypeId} {base g : Nat} {r : Nod} {x : NdX} {L : List MsgV} {w W W' : World} {k n : Nat} (h : PInv t base g r x L w k n W) (hb : Below W.heap.size W W') : PInv t base g r x L w k n W' := by
  obtain ⟨h1, h2, col, oA, oc, LV, h3, h4, h5⟩ := h
  exact ⟨h1, h2.trans (bel_base hb h3.rest.bs), col, oA, oc, LV, h3.bel hb, h4, h5⟩
set_option maxRecDepth 20000 in
theorem rpushAll_calls {base g : Nat} {col : Nat → Nat} {r : Nod} {x : NdX} {L : List MsgV} {w : World} (H : Hid (Nd 36 base g col r x L w)) (hL : L.length ≤ 900) (hc0 : 0 < r.conf.length) (hc7 : r.conf.length ≤ 7) (hin : r.next.length = r.conf.length)
    (hb0 : 0 ≤ r.b) (hlen : r.es.length ≤ 4096) (hx : Hid (∀ i, i < r.conf.length → r.next.getD i 0 ≤ 9223372036854775807)) :
    Calls Tryz.prog 39 #[.pointer (some ⟨g, 0, none⟩)] w (Said 36 base g r x L (Rf.pushAll r) w) := by
  obtain ⟨cb, co, hcA, _, _⟩ := H.out.conf_at 0 hc0
  have HI0 : Hid (PInv 36 base g r x L w 0 r.conf.length w) := Lib.hid ⟨by omega, Below.refl _ _, col, x.oA, x.oc, [], by rw [List.append_nil]; exact H.out, by simp, by simp [Rf.pushAll]⟩
  have HCA := Lib.hid hcA
  clear hcA
  go_enter Tryz.func39, Tryz.ntmps39
  go_wp2_with fail
  go_loopg [2] r.conf.length (fun n v2 W => ∃ k : Nat, v2 = .int .i64 k ∧ Hid (PInv 36 base g r x L w k n W))
  case atStart => exact ⟨0, rfl, HI0⟩
  case round =>
    obtain ⟨k, rfl, HI⟩ := hrel
    clear HI0
    have c1 : wr.cell? ⟨g, 1, none⟩ = some (.slice (some ⟨cb, co, none⟩) r.conf.length x.cc) := by
      obtain ⟨_, _, col2, oA2, oc2, LV, h3, _, _⟩ := HI.out
      rw [← HCA.out]; exact h3.blk.cells 1
    by_cases hlt : k < r.conf.length
    · have hl : (k : Int) < (r.conf.length : Int) := by omega
      obtain ⟨n, rfl⟩ : ∃ n, gk = n + 1 := ⟨gk - 1, by have := HI.out.1; omega⟩
      obtain ⟨h1, h2, col2, oA2, oc2, LV, h3, h4, h5⟩ := HI.out
      have N := Lib.hid h3
      have H2 := Lib.hid h2
      have H5 := Lib.hid h5
      have c3 := h3.conf_cell HCA.out k hlt rfl
      have c0 : wr.cell? ⟨g, 0, none⟩ = some (.int .i64 r.id) := h3.blk.cells 0
      have HX := Lib.hid (hx.out k hlt)
      have hk1 : (k : Int) + 1 ≤ 9223372036854775807 := by omega
      clear h2 h3 h5
      by_cases hne : r.conf.getD k 0 = r.id
      · have HNE := Lib.hid hne
        rw [hne] at c3
        clear hne
        go_wp2_with fail
        go_quiet (fail)
        go_wp2_with fail
        go_roundg n
        case rel => exact ⟨k + 1, by go_num, Lib.hid ((HI.out.skip HNE.out).to (bel_drewN (Below.refl _ _) _))⟩
        case measure => omega
      · obtain ⟨c, hc⟩ : ∃ c, c = r.conf.getD k 0 := ⟨_, rfl⟩
        rw [← hc] at c3
        have HNE := Lib.hid hne
        have hcn : ¬ c = r.id := by rw [hc]; exact hne
        have hcb : (c != r.id) = true := by rw [bne_iff_ne]; exact hcn
        clear hne hc
        go_wp2_with fail
        go_quiet (fail)
        have HBQ := Lib.hid (bel_drewN (Below.refl wr.heap.size wr) nq)
        generalize wr.drewN nq = wq at *
        have HQ := Lib.hid (HI.out.to HBQ.out)
        have NQ := Lib.hid (N.out.bel HBQ.out)
        have H2Q := Lib.hid (H2.out.trans (bel_base HBQ.out N.out.rest.bs))
        go_wp2_with fail
        refine (rpush_calls NQ (by rw [List.length_append]; omega) k hlt hc7 (by rw [hin]; exact hlt) hb0 hlen HX.out).mono ?_
        intro e w1 hp
        have HP := Lib.hid hp
        obtain ⟨A, cap, rfl, _, _⟩ := hp
        go_wp2_with fail
        go_roundg n
        case rel => exact ⟨k + 1, by go_num, Lib.hid (PInv.push h1 H2Q.out h4 H5.out HNE.out HP.out)⟩
        case measure => omega
    · have hl : ¬ (k : Int) < (r.conf.length : Int) := by omega
      obtain ⟨h1, h2, col2, oA2, oc2, LV, h3, h4, h5⟩ := HI.out
      obtain rfl : gk = 0 := by omega
      simp only [Rf.pushes, List.append_nil] at h5
      have N := Lib.hid h3
      have H2 := Lib.hid h2
      have H5 := Lib.hid h5
      clear h2 h3 h5
      go_wp2_with fail
      go_end0
      exact ⟨rfl, ⟨col2, oA2, oc2, LV, H5.out.symm, N.out⟩, H2.out⟩
end Go.Proofs.YtdladjgdhnkkcaaGreat
