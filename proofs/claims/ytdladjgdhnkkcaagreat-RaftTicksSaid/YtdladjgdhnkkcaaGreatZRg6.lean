
/-
  Contract of the reference of layer 14: a node stands for leader.
  Conditions: the node lies in memory, it is right.
-/
import Derived.Test.YtdladjgdhnkkcaaGreatZRg5
namespace Go.Proofs.YtdladjgdhnkkcaaGreat
open Go.RowKit
set_option linter.unusedVariables false
set_option linter.unusedSimpArgs false
set_option maxHeartbeats 4000000

namespace Qm
theorem asc_nodup : ∀ {p : Int} {l : List Int}, asc p l = true → (∀ x ∈ l, p < x) ∧ l.Nodup
  | _, [], _ => ⟨fun x hx => (by cases hx), List.nodup_nil⟩
  | p, x :: l, h => by
    simp only [asc, Bool.and_eq_true, decide_eq_true_eq] at h
    obtain ⟨h1, h2⟩ := asc_nodup h.2
    refine ⟨fun y hy => ?_, List.nodup_cons.2 ⟨fun hx => by have := h1 x hx; omega, h2⟩⟩
    rcases List.mem_cons.1 hy with rfl | hy
    · exact h.1
    · have := h1 y hy; omega
theorem wins_one {conf : List Int} {id : Int} (hc : chk conf = true) (hm : id ∈ conf) : wins conf [id] = decide (conf.length = 1) := by
  obtain ⟨h1, h2, _⟩ := chk_asc hc
  have hn := (asc_nodup h1).2
  have e : cnt conf [id] = 1 := by
    have h3 : (fun c : Int => decide (c ∈ [id])) = (fun c => c == id) := by
      funext c
      rw [Bool.eq_iff_iff]
      simp
    have h4 : conf.count id = 1 := by
      have a := List.nodup_iff_count.1 hn id
      have b := List.count_pos_iff.2 hm
      omega
    unfold cnt
    rw [h3, ← List.countP_eq_length_filter]
    exact h4
  unfold wins
  rw [hc, e, Bool.true_and]
  apply Bool.eq_iff_iff.2
  simp only [decide_eq_true_eq]
  omega
end Qm
section
variable {t : TypeId} {base g : Nat} {col : Nat → Nat} {r : Nod} {x : NdX} {L : List MsgV} {w0 W : World} {cs : Array Value}
theorem Run.stood2 (h : Run t base g col r x L w0 cs W) (id : Int) (s : Nod) (hcs : cs = nodeC s { x with vA := some ⟨w0.heap.size, 0, none⟩, vc := 1, nA := none, nc := 0, mA := none, mc := 0 } L.length) (h1 : s.conf = r.conf) (h2 : s.es = r.es) (h3 : s.votes = [id]) (h4 : s.next = []) (h5 : s.mtch = []) :
    Nd t base g (recol col w0.heap.size 2) s { x with vA := some ⟨w0.heap.size, 0, none⟩, vc := 1, nA := none, nc := 0, mA := none, mc := 0 } L (W.alloc (.cells #[.int .i64 id] 3)) ∧ Below base w0 (W.alloc (.cells #[.int .i64 id] 3)) := by
  have ho := OwnL.lit (L := layI .i64) (e := 3) W W.heap.size (Nat.le_refl _) [id] (by simp [maxLen]) #[.int .i64 id] rfl
  have hr1 := (h.rest.next0.mtch0).votes_new (bel_new (Below.refl _ _) (.cells #[.int .i64 id] 3)) ho
  rw [h.size] at hr1
  have hcg : recol col w0.heap.size 2 g = 1 := by rw [recol_old h.lt]; exact h.gc
  refine ⟨⟨h.ge, hcg, ?_, hr1.plain s h1 h2 h3 h4 h5⟩, h.bel.alloc h.rest.bs _⟩
  rw [← hcs]
  exact h.blk.alloc _
end
theorem AInv.to {t : TypeId} {base g : Nat} {r : Nod} {x : NdX} {L : List MsgV} {w W W' : World} {k n : Nat} (h : AInv t base g r x L w k n W) (hb : Below W.heap.size W W') : AInv t base g r x L w k n W' := by
  obtain ⟨h1, h2, col, oA, oc, LV, h3, h4, h5⟩ := h
  exact ⟨h1, h2.trans (bel_base hb h3.rest.bs), col, oA, oc, LV, h3.bel hb, h4, h5⟩

set_option maxRecDepth 20000 in
theorem rstand_calls {base g : Nat} {col : Nat → Nat} {r : Nod} {x : NdX} {L : List MsgV} {w : World} (H : Hid (Nd 36 base g col r x L w)) (hL : L.length ≤ 800) (hB : Hid (Rf.Base r)) (d : Int) (hd0 : -9223372036854775808 ≤ d) (hd1 : d ≤ 9223372036854775807) :
    Calls Tryz.prog 40 #[.pointer (some ⟨g, 0, none⟩), .int .i64 d] w (Led 36 base g (Rf.stand r d).1 x L (Rf.stand r d).2 w) := by
  have ht0 := hB.out.term0
  have ht1 := hB.out.term1
  obtain ⟨q, hq⟩ : ∃ q, q = Rf.stand r d := ⟨_, rfl⟩
  rw [← hq]
  have HQ := Lib.hid hq
  unfold Rf.stand at HQ
  by_cases hmx : 1099511627776 ≤ r.term
  · have hqe : q = (r, []) := by rw [HQ.out, if_pos hmx]
    subst hqe
    obtain ⟨id, conf, term, vote, role, leader, b, bt, es, snap, commit, left, wait, votes, next, mtch⟩ := r
    have hC := H.out.blk.cells
    dsimp only [nodeC] at hC
    simp only at hmx ht1
    have hte : term = 1099511627776 := by omega
    subst hte
    clear hq hmx ht0 ht1
    go_enter Tryz.func40, Tryz.ntmps40
    go_wp2_with fail
    go_end0
    exact ⟨rfl, ⟨col, x, [], rfl, rfl, rfl, by rw [List.append_nil]; exact H.out⟩, Below.refl _ _⟩
  · obtain ⟨dd, hdd⟩ : ∃ dd, dd = Rf.draw0 d := ⟨_, rfl⟩
    have hdr : 0 ≤ dd ∧ dd ≤ 9223372036854775807 := by rw [hdd]; unfold Rf.draw0; split <;> omega
    obtain ⟨hdd0, hdd1⟩ := hdr
    obtain ⟨s, hs⟩ : ∃ s, s = Rf.stand0 r d := ⟨_, rfl⟩
    have hg := Rf.stand0_go hB.out (by omega) d
    rw [← hs] at hg
    have HBs := Lib.hid hg.base
    have hca := Qm.chk_asc hB.out.conf
    have hqe : q = if r.conf.length = 1 then (Rf.lead s, Rf.pushAll (Rf.lead s)) else (s, Rf.asks s r.conf) := by
      rw [HQ.out, if_neg hmx, ← hs, Qm.wins_one hB.out.conf hB.out.id]
      simp only [decide_eq_true_eq]
    have HQE := Lib.hid hqe
    have hm2 : r.term < 1099511627776 := by omega
    have hte : (r.term == 1099511627776) = false := by rw [beq_eq_false_iff_ne]; omega
    have HDD := Lib.hid hdd
    have hsv : s = { r with term := r.term + 1, vote := r.id, role := 1, leader := 0, votes := [r.id], next := [], mtch := [], wait := 10 + dd % 10, left := 10 + dd % 10 } := by rw [hs, hdd]; rfl
    have HSV := Lib.hid hsv
    have hn7 : r.conf.length ≤ 7 := hca.2.2
    have hn1 : 0 < r.conf.length := hca.2.1
    obtain ⟨cb, co, hcA, hcl, _⟩ := H.out.conf_at 0 hn1
    have hw1 : IntKind.i64.wrap (r.term + 1) = r.term + 1 := IntWalk.i64_in _ (by omega)
    have HLN4 : Hid (r.es.length ≤ 4096) := Lib.hid (Rf.es_le hB.out)
    clear hq hqe hs hg hmx hdd hsv hca HQ
    obtain ⟨id, conf, term, vote, role, leader, b, bt, es, snap, commit, left, wait, votes, next, mtch⟩ := r
    obtain ⟨cA, cc, eA, ec, vA, vc, nA, nc, mA, mc, oA, oc⟩ := x
    simp only at hcA hm2 ht0 ht1 hn7 hn1 hw1 hte HLN4
    subst hcA
    have hC := H.out.blk.cells
    dsimp only [nodeC] at hC
    obtain ⟨wv, hwv⟩ : ∃ wv, wv = 10 + dd % 10 := ⟨_, rfl⟩
    have HWV := Lib.hid hwv
    have hs2 := HSV.out
    rw [← hwv] at hs2
    simp only at hs2
    have HS2 := Lib.hid hs2
    clear hs2 hwv
    by_cases hneg : d < 0
    · have hde : -(d + 1) = dd := by rw [HDD.out]; unfold Rf.draw0; rw [if_pos hneg]
      have hwd : IntKind.i64.wrap (d + 1) = d + 1 := IntWalk.i64_in _ (by omega)
      have hwd2 : IntKind.i64.wrap (-(d + 1)) = -(d + 1) := IntWalk.i64_in _ (by omega)
      go_enter Tryz.func40, Tryz.ntmps40
      go_upto_region 3 with (fail)
      clear hde hwd hwd2 hneg
      go_wp2_with fail
      refine (clear_calls H).mono ?_
      rintro e w1 ⟨rfl, ⟨col1, hN1⟩, hb1, -⟩
      have N1 := Lib.hid (show Nd 36 base g col1 ⟨id, conf, term, vote, role, leader, b, bt, es, snap, commit, left, wait, [], [], []⟩ ⟨some ⟨cb, co, none⟩, cc, eA, ec, none, 0, none, 0, none, 0, oA, oc⟩ L w1 from hN1)
      have HB1 := Lib.hid hb1
      have hC1 : ∀ i, w1.cell? ⟨g, i, none⟩ = (nodeC ⟨id, conf, term, vote, role, leader, b, bt, es, snap, commit, left, wait, [], [], []⟩ ⟨some ⟨cb, co, none⟩, cc, eA, ec, none, 0, none, 0, none, 0, oA, oc⟩ L.length)[i]? := N1.out.blk.cells
      dsimp only [nodeC] at hC1
      have hgl := N1.out.blk.lt
      have hgf := N1.out.blk.free
      have hrem : dd.tmod 10 = dd % 10 := Int.tmod_eq_emod_of_nonneg hdd0
      have hwr : IntKind.i64.wrap (10 + dd % 10) = 10 + dd % 10 := IntWalk.i64_in _ (by omega)
      clear hN1 hb1 hC
      go_upto_region 11 with (fail)
      rw [← HWV.out]
      have hR9 := (((((((N1.out.run.set 2 (.int .i64 (term + 1))).set 3 (.int .i64 id)).set 4 (.int .i64 1)).set 5 (.int .i64 0)).set 13 (.slice (some ⟨w1.heap.size, 0, none⟩) 1 1)).set 12 (.int .i64 wv)).set 11 (.int .i64 wv)).stood2 id s (by rw [HS2.out]; simp only [nodeC, List.setIfInBounds_toArray, List.set_cons_succ, List.set_cons_zero, List.length_nil, List.length_cons, Nat.zero_add]) (by rw [HS2.out]) (by rw [HS2.out]) (by rw [HS2.out]) (by rw [HS2.out]) (by rw [HS2.out])
      obtain ⟨hn7', hb7'⟩ := hR9
      have N7 := Lib.hid hn7'
      have HB7 := Lib.hid (HB1.out.trans hb7')
      generalize (((((((w1.setCell ⟨g, 2, none⟩ (.int .i64 (term + 1))).setCell ⟨g, 3, none⟩ (.int .i64 id)).setCell ⟨g, 4, none⟩ (.int .i64 1)).setCell ⟨g, 5, none⟩ (.int .i64 0)).setCell ⟨g, 13, none⟩ (.slice (some ⟨w1.heap.size, 0, none⟩) 1 1)).setCell ⟨g, 12, none⟩ (.int .i64 wv)).setCell ⟨g, 11, none⟩ (.int .i64 wv)).alloc (.cells #[.int .i64 id] 3) = W7 at *
      have e7 := HS2.out
      subst e7
      have k1 : W7.cell? ⟨g, 1, none⟩ = some (.slice (some ⟨cb, co, none⟩) conf.length cc) := N7.out.blk.cells 1
      clear hn7' hb7' hC1 hgl hgf hrem hwr
      by_cases hone : conf.length = 1
      · have HF2 := Lib.hid (HQE.out.trans (if_pos hone))
        have h1i : ((conf.length : Int) == 1) = true := by rw [beq_iff_eq]; omega
        clear hone
        go_wp2_with fail
        refine (rlead_calls N7 (by omega) HBs).mono ?_
        rintro e w8 ⟨rfl, ⟨col8, x8, LV, hx1, hx2, hLV, hN8⟩, hb8⟩
        have HX1 := Lib.hid hx1
        have HX2 := Lib.hid hx2
        have HLV := Lib.hid hLV
        have N8 := Lib.hid hN8
        have HB8 := Lib.hid hb8
        clear hx1 hx2 hLV hN8 hb8
        go_wp2_with fail
        go_end0
        rw [HF2.out]
        exact ⟨rfl, ⟨col8, x8, LV, HX1.out, HX2.out, HLV.out, N8.out⟩, HB7.out.trans HB8.out⟩
      · have HF2 := Lib.hid (HQE.out.trans (if_neg hone))
        have h1i : ((conf.length : Int) == 1) = false := by rw [beq_eq_false_iff_ne]; omega
        have k6 : W7.cell? ⟨g, 6, none⟩ = some (.int .i64 b) := N7.out.blk.cells 6
        have k7 : W7.cell? ⟨g, 7, none⟩ = some (.int .i64 bt) := N7.out.blk.cells 7
        have k8 : W7.cell? ⟨g, 8, none⟩ = some (.slice eA es.length ec) := N7.out.blk.cells 8
        have HL2 := Lib.hid (rlast2_calls b bt eA ec es W7 N7.out.rest.es.rd (by have := HLN4.out; omega))
        clear hone
        go_wp2_with fail
        refine HL2.out.mono ?_
        rintro e w9 ⟨rfl, hb9⟩
        have N9 := Lib.hid (N7.out.bel hb9)
        have HB9 := Lib.hid (HB7.out.trans (bel_base hb9 N7.out.rest.bs))
        obtain ⟨lN, hlN⟩ : ∃ lN, lN = Tr.lastN b bt es := ⟨_, rfl⟩
        obtain ⟨lT, hlT⟩ : ∃ lT, lT = Tr.lastT b bt es := ⟨_, rfl⟩
        simp only [← hlN, ← hlT]
        have HLN := Lib.hid hlN
        have HLT := Lib.hid hlT
        have HI0 : Hid (AInv 36 base g ⟨id, conf, term + 1, id, 1, 0, b, bt, es, snap, commit, wv, wv, [id], [], []⟩ ⟨some ⟨cb, co, none⟩, cc, eA, ec, some ⟨w1.heap.size, 0, none⟩, 1, none, 0, none, 0, oA, oc⟩ L w 0 conf.length w9) := Lib.hid ⟨by simp, HB9.out, _, oA, oc, [], by rw [List.append_nil]; exact N9.out, by simp, by simp⟩
        clear k1 k6 k7 k8 HL2 hb9 hlN hlT h1i
        go_wp2_with fail
        go_loopg [6] conf.length (fun n v6 W => ∃ k : Nat, v6 = .int .i64 k ∧ Hid (AInv 36 base g ⟨id, conf, term + 1, id, 1, 0, b, bt, es, snap, commit, wv, wv, [id], [], []⟩ ⟨some ⟨cb, co, none⟩, cc, eA, ec, some ⟨w1.heap.size, 0, none⟩, 1, none, 0, none, 0, oA, oc⟩ L w k n W))
        case atStart => exact ⟨0, rfl, HI0⟩
        case round =>
          obtain ⟨k, rfl, HI⟩ := hrel
          clear HI0
          have k1 : wr.cell? ⟨g, 1, none⟩ = some (.slice (some ⟨cb, co, none⟩) conf.length cc) := by
            obtain ⟨_, _, col2, oA2, oc2, LV, h3, _, _⟩ := HI.out
            exact h3.blk.cells 1
          by_cases hlt : k < conf.length
          · have hl : (k : Int) < (conf.length : Int) := by omega
            obtain ⟨n, rfl⟩ : ∃ n, gk = n + 1 := ⟨gk - 1, by have := HI.out.1; simp only at this; omega⟩
            obtain ⟨h1, h2, col2, oA2, oc2, LV, h3, h4, h5⟩ := HI.out
            have N := Lib.hid h3
            have H1 := Lib.hid h1
            have H2 := Lib.hid h2
            have H5 := Lib.hid h5
            have c3 := h3.conf_cell rfl k hlt rfl
            have c0 : wr.cell? ⟨g, 0, none⟩ = some (.int .i64 id) := h3.blk.cells 0
            have hk1 : (k : Int) + 1 ≤ 9223372036854775807 := by omega
            simp only at c3
            clear h1 h2 h3 h5
            by_cases hne : conf.getD k 0 = id
            · have HNE := Lib.hid hne
              rw [hne] at c3
              clear hne
              go_wp2_with fail
              go_quiet (fail)
              go_wp2_with fail
              go_roundg n
              case rel => exact ⟨k + 1, by go_num, Lib.hid ((HI.out.skip HNE.out).to (bel_drewN (Below.refl _ _) _))⟩
              case measure => omega
            · obtain ⟨c, hc⟩ : ∃ c, c = conf.getD k 0 := ⟨_, rfl⟩
              rw [← hc] at c3
              have HNE := Lib.hid hne
              have HC := Lib.hid hc
              have hcn : ¬ c = id := by rw [hc]; exact hne
              have hcb : (c != id) = true := by rw [bne_iff_ne]; exact hcn
              clear hne hc
              go_wp2_with fail
              go_quiet (fail)
              have HBQ := Lib.hid (bel_drewN (Below.refl wr.heap.size wr) nq)
              have c3' := c3
              have k1' := k1
              generalize hwq : wr.drewN nq = wq at *
              have NQ := Lib.hid (N.out.bel HBQ.out)
              have H2Q := Lib.hid (H2.out.trans (bel_base HBQ.out N.out.rest.bs))
              have c4 := NQ.out.conf_cell rfl k hlt HC.out.symm
              have k4 : wq.cell? ⟨g, 1, none⟩ = some (.slice (some ⟨cb, co, none⟩) conf.length cc) := NQ.out.blk.cells 1
              clear hwq c3' k1'
              go_wp2_with fail
              refine (say_calls NQ (by rw [List.length_append]; omega) ⟨1, 0, c, 0, lN, lT, 0, false, [], ByteArray.empty⟩ none 0 (Lib.hid ⟨Nat.le_refl _, RdZ.nil⟩)).mono ?_
              intro e w1' hp
              have HP := Lib.hid hp
              obtain ⟨rfl, _, _⟩ := hp
              go_wp2_with fail
              go_roundg n
              case rel => exact ⟨k + 1, by go_num, Lib.hid (AInv.push H1.out H2Q.out h4 H5.out HNE.out (by rw [HC.out, HLN.out, HLT.out]; rfl) HP.out)⟩
              case measure => omega
          · have hl : ¬ (k : Int) < (conf.length : Int) := by omega
            obtain ⟨h1, h2, col2, oA2, oc2, LV, h3, h4, h5⟩ := HI.out
            rw [List.drop_eq_nil_of_le (by simp only; omega)] at h5
            simp only [Rf.asks, List.append_nil] at h5
            have N := Lib.hid h3
            have H2 := Lib.hid h2
            have H5 := Lib.hid h5
            clear h1 h2 h3 h5
            go_wp2_with fail
            go_end0
            rw [HF2.out]
            exact ⟨rfl, ⟨col2, ⟨some ⟨cb, co, none⟩, cc, eA, ec, some ⟨w1.heap.size, 0, none⟩, 1, none, 0, none, 0, oA2, oc2⟩, LV, rfl, rfl, H5.out.symm, N.out⟩, H2.out⟩
    · have hde : d = dd := by rw [HDD.out]; unfold Rf.draw0; rw [if_neg hneg]
      have hd2 : 0 ≤ d := by omega
      go_enter Tryz.func40, Tryz.ntmps40
      go_upto_region 3 with (fail)
      clear hd2 hneg
      go_wp2_with fail
      refine (clear_calls H).mono ?_
      rintro e w1 ⟨rfl, ⟨col1, hN1⟩, hb1, -⟩
      have N1 := Lib.hid (show Nd 36 base g col1 ⟨id, conf, term, vote, role, leader, b, bt, es, snap, commit, left, wait, [], [], []⟩ ⟨some ⟨cb, co, none⟩, cc, eA, ec, none, 0, none, 0, none, 0, oA, oc⟩ L w1 from hN1)
      have HB1 := Lib.hid hb1
      have hC1 : ∀ i, w1.cell? ⟨g, i, none⟩ = (nodeC ⟨id, conf, term, vote, role, leader, b, bt, es, snap, commit, left, wait, [], [], []⟩ ⟨some ⟨cb, co, none⟩, cc, eA, ec, none, 0, none, 0, none, 0, oA, oc⟩ L.length)[i]? := N1.out.blk.cells
      dsimp only [nodeC] at hC1
      have hgl := N1.out.blk.lt
      have hgf := N1.out.blk.free
      have hrem : dd.tmod 10 = dd % 10 := Int.tmod_eq_emod_of_nonneg hdd0
      have hwr : IntKind.i64.wrap (10 + dd % 10) = 10 + dd % 10 := IntWalk.i64_in _ (by omega)
      clear hN1 hb1 hC
      go_upto_region 11 with (fail)
      rw [← HWV.out]
      have hR9 := (((((((N1.out.run.set 2 (.int .i64 (term + 1))).set 3 (.int .i64 id)).set 4 (.int .i64 1)).set 5 (.int .i64 0)).set 13 (.slice (some ⟨w1.heap.size, 0, none⟩) 1 1)).set 12 (.int .i64 wv)).set 11 (.int .i64 wv)).stood2 id s (by rw [HS2.out]; simp only [nodeC, List.setIfInBounds_toArray, List.set_cons_succ, List.set_cons_zero, List.length_nil, List.length_cons, Nat.zero_add]) (by rw [HS2.out]) (by rw [HS2.out]) (by rw [HS2.out]) (by rw [HS2.out]) (by rw [HS2.out])
      obtain ⟨hn7', hb7'⟩ := hR9
      have N7 := Lib.hid hn7'
      have HB7 := Lib.hid (HB1.out.trans hb7')
      generalize (((((((w1.setCell ⟨g, 2, none⟩ (.int .i64 (term + 1))).setCell ⟨g, 3, none⟩ (.int .i64 id)).setCell ⟨g, 4, none⟩ (.int .i64 1)).setCell ⟨g, 5, none⟩ (.int .i64 0)).setCell ⟨g, 13, none⟩ (.slice (some ⟨w1.heap.size, 0, none⟩) 1 1)).setCell ⟨g, 12, none⟩ (.int .i64 wv)).setCell ⟨g, 11, none⟩ (.int .i64 wv)).alloc (.cells #[.int .i64 id] 3) = W7 at *
      have e7 := HS2.out
      subst e7
      have k1 : W7.cell? ⟨g, 1, none⟩ = some (.slice (some ⟨cb, co, none⟩) conf.length cc) := N7.out.blk.cells 1
      clear hn7' hb7' hC1 hgl hgf hrem hwr
      by_cases hone : conf.length = 1
      · have HF2 := Lib.hid (HQE.out.trans (if_pos hone))
        have h1i : ((conf.length : Int) == 1) = true := by rw [beq_iff_eq]; omega
        clear hone
        go_wp2_with fail
        refine (rlead_calls N7 (by omega) HBs).mono ?_
        rintro e w8 ⟨rfl, ⟨col8, x8, LV, hx1, hx2, hLV, hN8⟩, hb8⟩
        have HX1 := Lib.hid hx1
        have HX2 := Lib.hid hx2
        have HLV := Lib.hid hLV
        have N8 := Lib.hid hN8
        have HB8 := Lib.hid hb8
        clear hx1 hx2 hLV hN8 hb8
        go_wp2_with fail
        go_end0
        rw [HF2.out]
        exact ⟨rfl, ⟨col8, x8, LV, HX1.out, HX2.out, HLV.out, N8.out⟩, HB7.out.trans HB8.out⟩
      · have HF2 := Lib.hid (HQE.out.trans (if_neg hone))
        have h1i : ((conf.length : Int) == 1) = false := by rw [beq_eq_false_iff_ne]; omega
        have k6 : W7.cell? ⟨g, 6, none⟩ = some (.int .i64 b) := N7.out.blk.cells 6
        have k7 : W7.cell? ⟨g, 7, none⟩ = some (.int .i64 bt) := N7.out.blk.cells 7
        have k8 : W7.cell? ⟨g, 8, none⟩ = some (.slice eA es.length ec) := N7.out.blk.cells 8
        have HL2 := Lib.hid (rlast2_calls b bt eA ec es W7 N7.out.rest.es.rd (by have := HLN4.out; omega))
        clear hone
        go_wp2_with fail
        refine HL2.out.mono ?_
        rintro e w9 ⟨rfl, hb9⟩
        have N9 := Lib.hid (N7.out.bel hb9)
        have HB9 := Lib.hid (HB7.out.trans (bel_base hb9 N7.out.rest.bs))
        obtain ⟨lN, hlN⟩ : ∃ lN, lN = Tr.lastN b bt es := ⟨_, rfl⟩
        obtain ⟨lT, hlT⟩ : ∃ lT, lT = Tr.lastT b bt es := ⟨_, rfl⟩
        simp only [← hlN, ← hlT]
        have HLN := Lib.hid hlN
        have HLT := Lib.hid hlT
        have HI0 : Hid (AInv 36 base g ⟨id, conf, term + 1, id, 1, 0, b, bt, es, snap, commit, wv, wv, [id], [], []⟩ ⟨some ⟨cb, co, none⟩, cc, eA, ec, some ⟨w1.heap.size, 0, none⟩, 1, none, 0, none, 0, oA, oc⟩ L w 0 conf.length w9) := Lib.hid ⟨by simp, HB9.out, _, oA, oc, [], by rw [List.append_nil]; exact N9.out, by simp, by simp⟩
        clear k1 k6 k7 k8 HL2 hb9 hlN hlT h1i
        go_wp2_with fail
        go_loopg [6] conf.length (fun n v6 W => ∃ k : Nat, v6 = .int .i64 k ∧ Hid (AInv 36 base g ⟨id, conf, term + 1, id, 1, 0, b, bt, es, snap, commit, wv, wv, [id], [], []⟩ ⟨some ⟨cb, co, none⟩, cc, eA, ec, some ⟨w1.heap.size, 0, none⟩, 1, none, 0, none, 0, oA, oc⟩ L w k n W))
        case atStart => exact ⟨0, rfl, HI0⟩
        case round =>
          obtain ⟨k, rfl, HI⟩ := hrel
          clear HI0
          have k1 : wr.cell? ⟨g, 1, none⟩ = some (.slice (some ⟨cb, co, none⟩) conf.length cc) := by
            obtain ⟨_, _, col2, oA2, oc2, LV, h3, _, _⟩ := HI.out
            exact h3.blk.cells 1
          by_cases hlt : k < conf.length
          · have hl : (k : Int) < (conf.length : Int) := by omega
            obtain ⟨n, rfl⟩ : ∃ n, gk = n + 1 := ⟨gk - 1, by have := HI.out.1; simp only at this; omega⟩
            obtain ⟨h1, h2, col2, oA2, oc2, LV, h3, h4, h5⟩ := HI.out
            have N := Lib.hid h3
            have H1 := Lib.hid h1
            have H2 := Lib.hid h2
            have H5 := Lib.hid h5
            have c3 := h3.conf_cell rfl k hlt rfl
            have c0 : wr.cell? ⟨g, 0, none⟩ = some (.int .i64 id) := h3.blk.cells 0
            have hk1 : (k : Int) + 1 ≤ 9223372036854775807 := by omega
            simp only at c3
            clear h1 h2 h3 h5
            by_cases hne : conf.getD k 0 = id
            · have HNE := Lib.hid hne
              rw [hne] at c3
              clear hne
              go_wp2_with fail
              go_quiet (fail)
              go_wp2_with fail
              go_roundg n
              case rel => exact ⟨k + 1, by go_num, Lib.hid ((HI.out.skip HNE.out).to (bel_drewN (Below.refl _ _) _))⟩
              case measure => omega
            · obtain ⟨c, hc⟩ : ∃ c, c = conf.getD k 0 := ⟨_, rfl⟩
              rw [← hc] at c3
              have HNE := Lib.hid hne
              have HC := Lib.hid hc
              have hcn : ¬ c = id := by rw [hc]; exact hne
              have hcb : (c != id) = true := by rw [bne_iff_ne]; exact hcn
              clear hne hc
              go_wp2_with fail
              go_quiet (fail)
              have HBQ := Lib.hid (bel_drewN (Below.refl wr.heap.size wr) nq)
              have c3' := c3
              have k1' := k1
              generalize hwq : wr.drewN nq = wq at *
              have NQ := Lib.hid (N.out.bel HBQ.out)
              have H2Q := Lib.hid (H2.out.trans (bel_base HBQ.out N.out.rest.bs))
              have c4 := NQ.out.conf_cell rfl k hlt HC.out.symm
              have k4 : wq.cell? ⟨g, 1, none⟩ = some (.slice (some ⟨cb, co, none⟩) conf.length cc) := NQ.out.blk.cells 1
              clear hwq c3' k1'
              go_wp2_with fail
              refine (say_calls NQ (by rw [List.length_append]; omega) ⟨1, 0, c, 0, lN, lT, 0, false, [], ByteArray.empty⟩ none 0 (Lib.hid ⟨Nat.le_refl _, RdZ.nil⟩)).mono ?_
              intro e w1' hp
              have HP := Lib.hid hp
              obtain ⟨rfl, _, _⟩ := hp
              go_wp2_with fail
              go_roundg n
              case rel => exact ⟨k + 1, by go_num, Lib.hid (AInv.push H1.out H2Q.out h4 H5.out HNE.out (by rw [HC.out, HLN.out, HLT.out]; rfl) HP.out)⟩
              case measure => omega
          · have hl : ¬ (k : Int) < (conf.length : Int) := by omega
            obtain ⟨h1, h2, col2, oA2, oc2, LV, h3, h4, h5⟩ := HI.out
            rw [List.drop_eq_nil_of_le (by simp only; omega)] at h5
            simp only [Rf.asks, List.append_nil] at h5
            have N := Lib.hid h3
            have H2 := Lib.hid h2
            have H5 := Lib.hid h5
            clear h1 h2 h3 h5
            go_wp2_with fail
            go_end0
            rw [HF2.out]
            exact ⟨rfl, ⟨col2, ⟨some ⟨cb, co, none⟩, cc, eA, ec, some ⟨w1.heap.size, 0, none⟩, 1, none, 0, none, 0, oA2, oc2⟩, LV, rfl, rfl, H5.out.symm, N.out⟩, H2.out⟩
end Go.Proofs.YtdladjgdhnkkcaaGreat
