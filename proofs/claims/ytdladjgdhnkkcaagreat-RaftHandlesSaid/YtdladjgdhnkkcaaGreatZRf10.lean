
/-
  Contract: a node stands for leader.
  Conditions: the node lies in memory and is right.
-/
import Derived.Test.YtdladjgdhnkkcaaGreatZRf12
namespace Go.Proofs.YtdladjgdhnkkcaaGreat
open Go.RowKit
set_option linter.unusedVariables false
set_option linter.unusedSimpArgs false
set_option maxHeartbeats 1000000

/-- a node's block, some cells written since w0 -/
structure Run (t : TypeId) (base g : Nat) (col : Nat → Nat) (r : Nod) (x : NdX) (L : List MsgV) (w0 : World) (cs : Array Value) (W : World) : Prop where
  ge : base ≤ g
  gc : col g = 1
  lt : g < w0.heap.size
  blk : Blk W g t cs
  rest : Rest base col r x L W
  bel : Below base w0 W
  size : W.heap.size = w0.heap.size
section
variable {t : TypeId} {base g : Nat} {col : Nat → Nat} {r : Nod} {x : NdX} {L : List MsgV} {w0 W : World} {cs : Array Value}
theorem Nd.run (h : Nd t base g col r x L w0) : Run t base g col r x L w0 (nodeC r x L.length) w0 := ⟨h.ge, h.gc, h.blk.lt, h.blk, h.rest, Below.refl _ _, rfl⟩
theorem Run.set (h : Run t base g col r x L w0 cs W) (i : Nat) (v : Value) : Run t base g col r x L w0 (cs.setIfInBounds i v) (W.setCell ⟨g, i, none⟩ v) :=
  ⟨h.ge, h.gc, h.lt, h.blk.set i v, h.rest.set1 h.gc v, h.bel.setCell h.ge v, by have := h.size; simpa using this⟩
theorem Run.stood (h : Run t base g col r x L w0 cs W) (id : Int) (s : Nod) (hcs : cs = nodeC s { x with vA := some ⟨w0.heap.size, 0, none⟩, vc := 1, nA := none, nc := 0, mA := none, mc := 0 } L.length) (h1 : s.conf = r.conf) (h2 : s.es = r.es) (h3 : s.votes = [id]) (h4 : s.next = []) (h5 : s.mtch = []) :
    Nd t base g (recol col w0.heap.size 2) s { x with vA := some ⟨w0.heap.size, 0, none⟩, vc := 1, nA := none, nc := 0, mA := none, mc := 0 } L ((W.alloc (.cells #[.int .i64 id] 3)).drew) ∧ Below base w0 ((W.alloc (.cells #[.int .i64 id] 3)).drew) := by
  have ho := OwnL.lit (L := layI .i64) (e := 3) W W.heap.size (Nat.le_refl _) [id] (by simp [maxLen]) #[.int .i64 id] rfl
  have hr1 := (h.rest.next0.mtch0).votes_new (bel_new (Below.refl _ _) (.cells #[.int .i64 id] 3)) ho
  rw [h.size] at hr1
  have hcg : recol col w0.heap.size 2 g = 1 := by rw [recol_old h.lt]; exact h.gc
  refine ⟨⟨h.ge, hcg, ?_, ((hr1.plain s h1 h2 h3 h4 h5).bel (bel_drew (Below.refl _ _)))⟩, bel_drew (h.bel.alloc h.rest.bs _)⟩
  rw [← hcs]
  exact (h.blk.alloc _).drewN 1
/-- some cells written, the lists as they were -/
theorem Run.nd (h : Run t base g col r x L w0 cs W) (s : Nod) (hcs : cs = nodeC s x L.length) (h1 : s.conf = r.conf) (h2 : s.es = r.es) (h3 : s.votes = r.votes) (h4 : s.next = r.next) (h5 : s.mtch = r.mtch) : Nd t base g col s x L W :=
  ⟨h.ge, h.gc, by rw [← hcs]; exact h.blk, h.rest.plain s h1 h2 h3 h4 h5⟩
/-- the same, and votes, next, match are gone -/
theorem Run.nd0 (h : Run t base g col r x L w0 cs W) (s : Nod) (hcs : cs = nodeC s { x with vA := none, vc := 0, nA := none, nc := 0, mA := none, mc := 0 } L.length) (h1 : s.conf = r.conf) (h2 : s.es = r.es) (h3 : s.votes = []) (h4 : s.next = []) (h5 : s.mtch = []) : Nd t base g col s { x with vA := none, vc := 0, nA := none, nc := 0, mA := none, mc := 0 } L W :=
  ⟨h.ge, h.gc, by rw [← hcs]; exact h.blk, (h.rest.votes0.next0.mtch0).plain s h1 h2 h3 h4 h5⟩
end

/-- in the middle of asking -/
def AInv (t : TypeId) (base g : Nat) (r : Nod) (x : NdX) (L : List MsgV) (w : World) (k n : Nat) (W : World) : Prop :=
  k + n = r.conf.length ∧ Below base w W ∧ ∃ col oA oc LV, Nd t base g col r { x with oA := oA, oc := oc } (L ++ LV) W ∧ LV.length ≤ k ∧ Rf.asks r r.conf = LV.map (·.m) ++ Rf.asks r (r.conf.drop k)
theorem AInv.skip {t : TypeId} {base g : Nat} {r : Nod} {x : NdX} {L : List MsgV} {w W : World} {k n : Nat} (h : AInv t base g r x L w k (n + 1) W) (hc : r.conf.getD k 0 = r.id) : AInv t base g r x L w (k + 1) n W := by
  obtain ⟨h1, h2, col, oA, oc, LV, h3, h4, h5⟩ := h
  refine ⟨by omega, h2, col, oA, oc, LV, h3, by omega, ?_⟩
  rw [h5, Qm.drop_at _ k (by omega)]
  simp only [Rf.asks, if_pos (show r.conf.getD k default = r.id from hc), List.nil_append]
theorem AInv.push {t : TypeId} {base g : Nat} {r : Nod} {x : NdX} {L LV : List MsgV} {w W W' : World} {k n : Nat} {oA : Option Addr} {oc : Nat} {e : Ending} {M : Msg} (h1 : k + (n + 1) = r.conf.length) (h2 : Below base w W) (h4 : LV.length ≤ k) (h5 : Rf.asks r r.conf = LV.map (·.m) ++ Rf.asks r (r.conf.drop k)) (hc : r.conf.getD k 0 ≠ r.id)
    (hM : M = ⟨1, r.id, r.conf.getD k 0, r.term, Rf.lastN r, Rf.lastT r, 0, false, [], ByteArray.empty⟩) (hp : Sent t base g r { x with oA := oA, oc := oc } ((L ++ LV) ++ [⟨M, none, 0⟩]) W e W') : AInv t base g r x L w (k + 1) n W' := by
  obtain ⟨_, ⟨col', oA', oc', hN⟩, hb⟩ := hp
  refine ⟨by omega, h2.trans hb, col', oA', oc', LV ++ [⟨M, none, 0⟩], ?_, by simp; omega, ?_⟩
  · rw [← List.append_assoc]; exact hN
  · rw [h5, Qm.drop_at _ k (by omega)]
    simp only [Rf.asks, if_neg (show ¬ r.conf.getD k default = r.id from hc), List.map_append, List.map_cons, List.map_nil, List.append_assoc]
    rw [hM]
    rfl

set_option maxRecDepth 20000 in
theorem stand_calls {base g : Nat} {col : Nat → Nat} {r : Nod} {x : NdX} {L : List MsgV} {w : World} (H : Hid (Nd 53 base g col r x L w)) (hL : L.length ≤ 800) (hB : Hid (Rf.Base r)) (d : Int) (hd0 : -9223372036854775808 ≤ d) (hd1 : d ≤ 9223372036854775807) :
    Calls Tryz.prog 38 #[.pointer (some ⟨g, 0, none⟩), .int .i64 d] w (Led 53 base g (Rf.stand r d).1 x L (Rf.stand r d).2 w) := by
  have ht0 := hB.out.term0
  have ht1 := hB.out.term1
  obtain ⟨q, hq⟩ : ∃ q, q = Rf.stand r d := ⟨_, rfl⟩
  rw [← hq]
  have HQ := Lib.hid hq
  unfold Rf.stand at HQ
  have hgl := H.out.blk.lt
  have hgf := H.out.blk.free
  by_cases hmx : 1099511627776 ≤ r.term
  · have hqe : q = (r, []) := by rw [HQ.out, if_pos hmx]
    subst hqe
    obtain ⟨id, conf, term, vote, role, leader, b, bt, es, snap, commit, left, wait, votes, next, mtch⟩ := r
    have hC := H.out.blk.cells
    dsimp only [nodeC] at hC
    simp only at hmx
    clear hq
    go_enter Tryz.func38, Tryz.ntmps38
    go_wp2_with fail
    go_end0
    exact ⟨rfl, ⟨col, x, [], rfl, rfl, rfl, by rw [List.append_nil]; exact H.out⟩, Below.refl _ _⟩
  · obtain ⟨dd, hdd⟩ : ∃ dd, dd = Rf.draw0 d := ⟨_, rfl⟩
    have hdr : 0 ≤ dd ∧ dd ≤ 9223372036854775807 := by rw [hdd]; unfold Rf.draw0; split <;> omega
    obtain ⟨hdd0, hdd1⟩ := hdr
    obtain ⟨s, hs⟩ : ∃ s, s = Rf.stand0 r d := ⟨_, rfl⟩
    have hg := Rf.stand0_go hB.out (by omega) d
    rw [← hs] at hg
    have HBs := Lib.hid hg.base
    have hqe : q = if Qm.wins r.conf [r.id] = true then (Rf.lead s, Rf.pushAll (Rf.lead s)) else (s, Rf.asks s r.conf) := by rw [HQ.out, if_neg hmx, ← hs]
    have HQE := Lib.hid hqe
    have hm2 : r.term < 1099511627776 := by omega
    have HDD := Lib.hid hdd
    have hsv : s = { r with term := r.term + 1, vote := r.id, role := 1, leader := 0, votes := [r.id], next := [], mtch := [], wait := 10 + dd % 10, left := 10 + dd % 10 } := by rw [hs, hdd]; rfl
    have HSV := Lib.hid hsv
    have hca := Qm.chk_asc hB.out.conf
    have hn7 : r.conf.length ≤ 7 := hca.2.2
    have hn1 : 0 < r.conf.length := hca.2.1
    obtain ⟨cb, co, hcA, hcl, _⟩ := H.out.conf_at 0 hn1
    have hw1 : IntKind.i64.wrap (r.term + 1) = r.term + 1 := IntWalk.i64_in _ (by omega)
    clear hq hqe hs hg hmx hdd hsv hca HQ
    obtain ⟨id, conf, term, vote, role, leader, b, bt, es, snap, commit, left, wait, votes, next, mtch⟩ := r
    obtain ⟨cA, cc, eA, ec, vA, vc, nA, nc, mA, mc, oA, oc⟩ := x
    simp only at hcA hm2 ht0 ht1 hn7 hn1 hw1
    subst hcA
    have hC := H.out.blk.cells
    dsimp only [nodeC] at hC
    obtain ⟨wv, hwv⟩ : ∃ wv, wv = 10 + dd % 10 := ⟨_, rfl⟩
    have HWV := Lib.hid hwv
    have hs2 := HSV.out
    rw [← hwv] at hs2
    simp only at hs2
    have HS2 := Lib.hid hs2
    have hR9 := (((((((((H.out.run.set 2 (.int .i64 (term + 1))).set 3 (.int .i64 id)).set 4 (.int .i64 1)).set 5 (.int .i64 0)).set 13 (.slice (some ⟨w.heap.size, 0, none⟩) 1 1)).set 14 (.slice none 0 0)).set 15 (.slice none 0 0)).set 12 (.int .i64 wv)).set 11 (.int .i64 wv)).stood id s (by rw [hs2]; simp only [nodeC, List.setIfInBounds_toArray, List.set_cons_succ, List.set_cons_zero, List.length_nil, List.length_cons]) (by rw [hs2]) (by rw [hs2]) (by rw [hs2]) (by rw [hs2]) (by rw [hs2])
    obtain ⟨hn7', hb7'⟩ := hR9
    have N7 := Lib.hid hn7'
    have HB7 := Lib.hid hb7'
    clear hs2 hwv hn7' hb7'
    by_cases hneg : d < 0
    · have hde : dd = -(d + 1) := by rw [HDD.out]; unfold Rf.draw0; rw [if_pos hneg]
      have hwd : IntKind.i64.wrap (d + 1) = d + 1 := IntWalk.i64_in _ (by omega)
      have hwd2 : IntKind.i64.wrap (-(d + 1)) = -(d + 1) := IntWalk.i64_in _ (by omega)
      have hform : wrap64 (10 + -(d + 1).tmod 10) = wv := by
        rw [HWV.out, hde, ← Int.neg_tmod, Int.tmod_eq_emod_of_nonneg (by omega)]
        have := IntWalk.i64_in (10 + -(d + 1) % 10) (by omega)
        rw [IntKind.wrap_i64] at this
        unfold wrap64
        exact this
      have HFO := Lib.hid hform
      clear hform
      go_enter Tryz.func38, Tryz.ntmps38
      go_wp2_with fail
      go_region
      go_wp2_with fail
      rw [HFO.out]
      generalize ((((((((((w.setCell ⟨g, 2, none⟩ (.int .i64 (term + 1))).setCell ⟨g, 3, none⟩ (.int .i64 id)).setCell ⟨g, 4, none⟩ (.int .i64 1)).setCell ⟨g, 5, none⟩ (.int .i64 0)).setCell ⟨g, 13, none⟩ (.slice (some ⟨w.heap.size, 0, none⟩) 1 1)).setCell ⟨g, 14, none⟩ (.slice none 0 0)).setCell ⟨g, 15, none⟩ (.slice none 0 0)).setCell ⟨g, 12, none⟩ (.int .i64 wv)).setCell ⟨g, 11, none⟩ (.int .i64 wv)).alloc (.cells #[.int .i64 id] 3)).drew = W7 at *
      have e7 := HS2.out
      subst e7
      have k1 : W7.cell? ⟨g, 1, none⟩ = some (.slice (some ⟨cb, co, none⟩) conf.length cc) := N7.out.blk.cells 1
      have k13 : W7.cell? ⟨g, 13, none⟩ = some (.slice (some ⟨w.heap.size, 0, none⟩) 1 1) := N7.out.blk.cells 13
      have HWN := Lib.hid (fun W (hR : Hid (RdI W (some ⟨cb, co, none⟩) conf)) (hS : Hid (RdI W (some ⟨w.heap.size, 0, none⟩) [id])) => wins_calls (some ⟨cb, co, none⟩) (some ⟨w.heap.size, 0, none⟩) cc 1 conf [id] W hR H.out.conf_rd.2.1 H.out.conf_rd.2.2 hS (by simp))
      have HCR := Lib.hid (show RdI W7 (some ⟨cb, co, none⟩) conf from N7.out.conf_rd.1)
      have HVR := Lib.hid (show RdI W7 (some ⟨w.heap.size, 0, none⟩) [id] from N7.out.votes_rd)
      clear hC hgl hgf
      by_cases hw : Qm.wins conf [id] = true
      · rw [hw] at HWN
        have HF2 := Lib.hid (HQE.out.trans (if_pos hw))
        clear hw
        go_quiet ((go_at_call 58; exact quiet_of_eq (HWN.out _ (Lib.hid (HCR.out.bel (bel_drewN (Below.refl _ _) _))) (Lib.hid (HVR.out.bel (bel_drewN (Below.refl _ _) _))))))
        go_wp2_with fail
        refine (lead_calls (Lib.hid (N7.out.bel (bel_drewN (Below.refl W7.heap.size W7) nq))) (by omega) HBs).mono ?_
        rintro e w8 ⟨rfl, ⟨col8, x8, LV, hx1, hx2, hLV, hN8⟩, hb8⟩
        have HX1 := Lib.hid hx1
        have HX2 := Lib.hid hx2
        have HLV := Lib.hid hLV
        have N8 := Lib.hid hN8
        have HB8 := Lib.hid hb8
        clear hx1 hx2 hLV hN8 hb8
        go_wp2_with fail
        go_end0
        rw [HF2.out]
        exact ⟨rfl, ⟨col8, x8, LV, HX1.out, HX2.out, HLV.out, N8.out⟩, (HB7.out.trans (bel_base (bel_drewN (Below.refl _ _) nq) N7.out.rest.bs)).trans HB8.out⟩
      · have hw' : Qm.wins conf [id] = false := by simpa using hw
        rw [hw'] at HWN
        have HF2 := Lib.hid (HQE.out.trans (if_neg hw))
        clear hw hw'
        go_quiet ((go_at_call 58; exact quiet_of_eq (HWN.out _ (Lib.hid (HCR.out.bel (bel_drewN (Below.refl _ _) _))) (Lib.hid (HVR.out.bel (bel_drewN (Below.refl _ _) _))))))
        have N8 := Lib.hid (N7.out.bel (bel_drewN (Below.refl W7.heap.size W7) nq))
        have HB8 := Lib.hid (HB7.out.trans (bel_base (bel_drewN (Below.refl W7.heap.size W7) nq) N7.out.rest.bs))
        generalize W7.drewN nq = W8 at *
        have k6 : W8.cell? ⟨g, 6, none⟩ = some (.int .i64 b) := N8.out.blk.cells 6
        have k7 : W8.cell? ⟨g, 7, none⟩ = some (.int .i64 bt) := N8.out.blk.cells 7
        have k8 : W8.cell? ⟨g, 8, none⟩ = some (.slice eA es.length ec) := N8.out.blk.cells 8
        have HL2 := Lib.hid (last2_calls b bt eA ec es W8 N8.out.rest.es.rd (by have := Tr.chk_rim HBs.out.trail; have := this.2.2.2.2.2.1; simp only at this; omega))
        clear k1 k13 HCR HVR HWN
        go_wp2_with fail
        refine HL2.out.mono ?_
        rintro e w9 ⟨rfl, hb9⟩
        have N9 := Lib.hid (N8.out.bel hb9)
        have HB9 := Lib.hid (HB8.out.trans (bel_base hb9 N8.out.rest.bs))
        have k1 : w9.cell? ⟨g, 1, none⟩ = some (.slice (some ⟨cb, co, none⟩) conf.length cc) := N9.out.blk.cells 1
        obtain ⟨lN, hlN⟩ : ∃ lN, lN = Tr.lastN b bt es := ⟨_, rfl⟩
        obtain ⟨lT, hlT⟩ : ∃ lT, lT = Tr.lastT b bt es := ⟨_, rfl⟩
        simp only [← hlN, ← hlT]
        have HLN := Lib.hid hlN
        have HLT := Lib.hid hlT
        have HI0 : Hid (AInv 53 base g ⟨id, conf, term + 1, id, 1, 0, b, bt, es, snap, commit, wv, wv, [id], [], []⟩ ⟨some ⟨cb, co, none⟩, cc, eA, ec, some ⟨w.heap.size, 0, none⟩, 1, none, 0, none, 0, oA, oc⟩ L w 0 conf.length w9) := Lib.hid ⟨by simp, HB9.out, _, oA, oc, [], by rw [List.append_nil]; exact N9.out, by simp, by simp⟩
        clear k6 k7 k8 HL2 hb9 hlN hlT
        go_wp2_with fail
        go_loopg [7, 107] conf.length (fun n v7 v107 W => ∃ k : Nat, v107 = .int .i64 k ∧ Hid (AInv 53 base g ⟨id, conf, term + 1, id, 1, 0, b, bt, es, snap, commit, wv, wv, [id], [], []⟩ ⟨some ⟨cb, co, none⟩, cc, eA, ec, some ⟨w.heap.size, 0, none⟩, 1, none, 0, none, 0, oA, oc⟩ L w k n W))
        case atStart => exact ⟨0, rfl, HI0⟩
        case round =>
          obtain ⟨k, rfl, HI⟩ := hrel
          clear k1 HI0
          by_cases hlt : k < conf.length
          · have hl : (k : Int) < (conf.length : Int) := by omega
            obtain ⟨n, rfl⟩ : ∃ n, gk = n + 1 := ⟨gk - 1, by have := HI.out.1; simp only at this; omega⟩
            obtain ⟨h1, h2, col2, oA2, oc2, LV, h3, h4, h5⟩ := HI.out
            have N := Lib.hid h3
            have H1 := Lib.hid h1
            have H2 := Lib.hid h2
            have H5 := Lib.hid h5
            have c3 := h3.conf_cell rfl k hlt rfl
            have c0 : wr.cell? ⟨g, 0, none⟩ = some (.int .i64 id) := h3.blk.cells 0
            simp only at c3
            clear h1 h2 h3 h5
            by_cases hne : conf.getD k 0 = id
            · have HNE := Lib.hid hne
              rw [hne] at c3
              clear hne
              go_wp2_with fail
              go_roundg n
              case rel => exact ⟨k + 1, by go_num, Lib.hid (HI.out.skip HNE.out)⟩
              case measure => omega
            · obtain ⟨c, hc⟩ : ∃ c, c = conf.getD k 0 := ⟨_, rfl⟩
              rw [← hc] at c3
              have HNE := Lib.hid hne
              have HC := Lib.hid hc
              have hcn : ¬ c = id := by rw [hc]; exact hne
              have hcb : (c != id) = true := by rw [bne_iff_ne]; exact hcn
              clear hne hc
              go_wp2_with fail
              refine (send_calls N (by rw [List.length_append]; omega) ⟨1, 0, c, 0, lN, lT, 0, false, [], ByteArray.empty⟩ none 0 (Lib.hid ⟨Nat.le_refl _, RdZ.nil⟩)).mono ?_
              intro e w1 hp
              have HP := Lib.hid hp
              obtain ⟨rfl, _, _⟩ := hp
              go_wp2_with fail
              go_roundg n
              case rel => exact ⟨k + 1, by go_num, Lib.hid (AInv.push H1.out H2.out h4 H5.out HNE.out (by rw [HC.out, HLN.out, HLT.out]; rfl) HP.out)⟩
              case measure => omega
          · have hl : ¬ (k : Int) < (conf.length : Int) := by omega
            obtain ⟨h1, h2, col2, oA2, oc2, LV, h3, h4, h5⟩ := HI.out
            rw [List.drop_eq_nil_of_le (by simp only; omega)] at h5
            simp only [Rf.asks, List.append_nil] at h5
            have N := Lib.hid h3
            have H2 := Lib.hid h2
            have H5 := Lib.hid h5
            clear h1 h2 h3 h5
            go_wp2_with fail
            go_end0
            rw [HF2.out]
            exact ⟨rfl, ⟨col2, ⟨some ⟨cb, co, none⟩, cc, eA, ec, some ⟨w.heap.size, 0, none⟩, 1, none, 0, none, 0, oA2, oc2⟩, LV, rfl, rfl, H5.out.symm, N.out⟩, H2.out⟩
    · have hde : dd = d := by rw [HDD.out]; unfold Rf.draw0; rw [if_neg hneg]
      have hd2 : 0 ≤ d := by omega
      go_enter Tryz.func38, Tryz.ntmps38
      go_wp2_with fail
      go_region
      go_wp2_with fail
      rw [show (10 : Int) + d % 10 = wv from by rw [HWV.out, hde]]
      generalize ((((((((((w.setCell ⟨g, 2, none⟩ (.int .i64 (term + 1))).setCell ⟨g, 3, none⟩ (.int .i64 id)).setCell ⟨g, 4, none⟩ (.int .i64 1)).setCell ⟨g, 5, none⟩ (.int .i64 0)).setCell ⟨g, 13, none⟩ (.slice (some ⟨w.heap.size, 0, none⟩) 1 1)).setCell ⟨g, 14, none⟩ (.slice none 0 0)).setCell ⟨g, 15, none⟩ (.slice none 0 0)).setCell ⟨g, 12, none⟩ (.int .i64 wv)).setCell ⟨g, 11, none⟩ (.int .i64 wv)).alloc (.cells #[.int .i64 id] 3)).drew = W7 at *
      have e7 := HS2.out
      subst e7
      have k1 : W7.cell? ⟨g, 1, none⟩ = some (.slice (some ⟨cb, co, none⟩) conf.length cc) := N7.out.blk.cells 1
      have k13 : W7.cell? ⟨g, 13, none⟩ = some (.slice (some ⟨w.heap.size, 0, none⟩) 1 1) := N7.out.blk.cells 13
      have HWN := Lib.hid (fun W (hR : Hid (RdI W (some ⟨cb, co, none⟩) conf)) (hS : Hid (RdI W (some ⟨w.heap.size, 0, none⟩) [id])) => wins_calls (some ⟨cb, co, none⟩) (some ⟨w.heap.size, 0, none⟩) cc 1 conf [id] W hR H.out.conf_rd.2.1 H.out.conf_rd.2.2 hS (by simp))
      have HCR := Lib.hid (show RdI W7 (some ⟨cb, co, none⟩) conf from N7.out.conf_rd.1)
      have HVR := Lib.hid (show RdI W7 (some ⟨w.heap.size, 0, none⟩) [id] from N7.out.votes_rd)
      clear hC hgl hgf
      by_cases hw : Qm.wins conf [id] = true
      · rw [hw] at HWN
        have HF2 := Lib.hid (HQE.out.trans (if_pos hw))
        clear hw
        go_quiet ((go_at_call 58; exact quiet_of_eq (HWN.out _ (Lib.hid (HCR.out.bel (bel_drewN (Below.refl _ _) _))) (Lib.hid (HVR.out.bel (bel_drewN (Below.refl _ _) _))))))
        go_wp2_with fail
        refine (lead_calls (Lib.hid (N7.out.bel (bel_drewN (Below.refl W7.heap.size W7) nq))) (by omega) HBs).mono ?_
        rintro e w8 ⟨rfl, ⟨col8, x8, LV, hx1, hx2, hLV, hN8⟩, hb8⟩
        have HX1 := Lib.hid hx1
        have HX2 := Lib.hid hx2
        have HLV := Lib.hid hLV
        have N8 := Lib.hid hN8
        have HB8 := Lib.hid hb8
        clear hx1 hx2 hLV hN8 hb8
        go_wp2_with fail
        go_end0
        rw [HF2.out]
        exact ⟨rfl, ⟨col8, x8, LV, HX1.out, HX2.out, HLV.out, N8.out⟩, (HB7.out.trans (bel_base (bel_drewN (Below.refl _ _) nq) N7.out.rest.bs)).trans HB8.out⟩
      · have hw' : Qm.wins conf [id] = false := by simpa using hw
        rw [hw'] at HWN
        have HF2 := Lib.hid (HQE.out.trans (if_neg hw))
        clear hw hw'
        go_quiet ((go_at_call 58; exact quiet_of_eq (HWN.out _ (Lib.hid (HCR.out.bel (bel_drewN (Below.refl _ _) _))) (Lib.hid (HVR.out.bel (bel_drewN (Below.refl _ _) _))))))
        have N8 := Lib.hid (N7.out.bel (bel_drewN (Below.refl W7.heap.size W7) nq))
        have HB8 := Lib.hid (HB7.out.trans (bel_base (bel_drewN (Below.refl W7.heap.size W7) nq) N7.out.rest.bs))
        generalize W7.drewN nq = W8 at *
        have k6 : W8.cell? ⟨g, 6, none⟩ = some (.int .i64 b) := N8.out.blk.cells 6
        have k7 : W8.cell? ⟨g, 7, none⟩ = some (.int .i64 bt) := N8.out.blk.cells 7
        have k8 : W8.cell? ⟨g, 8, none⟩ = some (.slice eA es.length ec) := N8.out.blk.cells 8
        have HL2 := Lib.hid (last2_calls b bt eA ec es W8 N8.out.rest.es.rd (by have := Tr.chk_rim HBs.out.trail; have := this.2.2.2.2.2.1; simp only at this; omega))
        clear k1 k13 HCR HVR HWN
        go_wp2_with fail
        refine HL2.out.mono ?_
        rintro e w9 ⟨rfl, hb9⟩
        have N9 := Lib.hid (N8.out.bel hb9)
        have HB9 := Lib.hid (HB8.out.trans (bel_base hb9 N8.out.rest.bs))
        have k1 : w9.cell? ⟨g, 1, none⟩ = some (.slice (some ⟨cb, co, none⟩) conf.length cc) := N9.out.blk.cells 1
        obtain ⟨lN, hlN⟩ : ∃ lN, lN = Tr.lastN b bt es := ⟨_, rfl⟩
        obtain ⟨lT, hlT⟩ : ∃ lT, lT = Tr.lastT b bt es := ⟨_, rfl⟩
        simp only [← hlN, ← hlT]
        have HLN := Lib.hid hlN
        have HLT := Lib.hid hlT
        have HI0 : Hid (AInv 53 base g ⟨id, conf, term + 1, id, 1, 0, b, bt, es, snap, commit, wv, wv, [id], [], []⟩ ⟨some ⟨cb, co, none⟩, cc, eA, ec, some ⟨w.heap.size, 0, none⟩, 1, none, 0, none, 0, oA, oc⟩ L w 0 conf.length w9) := Lib.hid ⟨by simp, HB9.out, _, oA, oc, [], by rw [List.append_nil]; exact N9.out, by simp, by simp⟩
        clear k6 k7 k8 HL2 hb9 hlN hlT
        go_wp2_with fail
        go_loopg [7, 107] conf.length (fun n v7 v107 W => ∃ k : Nat, v107 = .int .i64 k ∧ Hid (AInv 53 base g ⟨id, conf, term + 1, id, 1, 0, b, bt, es, snap, commit, wv, wv, [id], [], []⟩ ⟨some ⟨cb, co, none⟩, cc, eA, ec, some ⟨w.heap.size, 0, none⟩, 1, none, 0, none, 0, oA, oc⟩ L w k n W))
        case atStart => exact ⟨0, rfl, HI0⟩
        case round =>
          obtain ⟨k, rfl, HI⟩ := hrel
          clear k1 HI0
          by_cases hlt : k < conf.length
          · have hl : (k : Int) < (conf.length : Int) := by omega
            obtain ⟨n, rfl⟩ : ∃ n, gk = n + 1 := ⟨gk - 1, by have := HI.out.1; simp only at this; omega⟩
            obtain ⟨h1, h2, col2, oA2, oc2, LV, h3, h4, h5⟩ := HI.out
            have N := Lib.hid h3
            have H1 := Lib.hid h1
            have H2 := Lib.hid h2
            have H5 := Lib.hid h5
            have c3 := h3.conf_cell rfl k hlt rfl
            have c0 : wr.cell? ⟨g, 0, none⟩ = some (.int .i64 id) := h3.blk.cells 0
            simp only at c3
            clear h1 h2 h3 h5
            by_cases hne : conf.getD k 0 = id
            · have HNE := Lib.hid hne
              rw [hne] at c3
              clear hne
              go_wp2_with fail
              go_roundg n
              case rel => exact ⟨k + 1, by go_num, Lib.hid (HI.out.skip HNE.out)⟩
              case measure => omega
            · obtain ⟨c, hc⟩ : ∃ c, c = conf.getD k 0 := ⟨_, rfl⟩
              rw [← hc] at c3
              have HNE := Lib.hid hne
              have HC := Lib.hid hc
              have hcn : ¬ c = id := by rw [hc]; exact hne
              have hcb : (c != id) = true := by rw [bne_iff_ne]; exact hcn
              clear hne hc
              go_wp2_with fail
              refine (send_calls N (by rw [List.length_append]; omega) ⟨1, 0, c, 0, lN, lT, 0, false, [], ByteArray.empty⟩ none 0 (Lib.hid ⟨Nat.le_refl _, RdZ.nil⟩)).mono ?_
              intro e w1 hp
              have HP := Lib.hid hp
              obtain ⟨rfl, _, _⟩ := hp
              go_wp2_with fail
              go_roundg n
              case rel => exact ⟨k + 1, by go_num, Lib.hid (AInv.push H1.out H2.out h4 H5.out HNE.out (by rw [HC.out, HLN.out, HLT.out]; rfl) HP.out)⟩
              case measure => omega
          · have hl : ¬ (k : Int) < (conf.length : Int) := by omega
            obtain ⟨h1, h2, col2, oA2, oc2, LV, h3, h4, h5⟩ := HI.out
            rw [List.drop_eq_nil_of_le (by simp only; omega)] at h5
            simp only [Rf.asks, List.append_nil] at h5
            have N := Lib.hid h3
            have H2 := Lib.hid h2
            have H5 := Lib.hid h5
            clear h1 h2 h3 h5
            go_wp2_with fail
            go_end0
            rw [HF2.out]
            exact ⟨rfl, ⟨col2, ⟨some ⟨cb, co, none⟩, cc, eA, ec, some ⟨w.heap.size, 0, none⟩, 1, none, 0, none, 0, oA2, oc2⟩, LV, rfl, rfl, H5.out.symm, N.out⟩, H2.out⟩
end Go.Proofs.YtdladjgdhnkkcaaGreat
