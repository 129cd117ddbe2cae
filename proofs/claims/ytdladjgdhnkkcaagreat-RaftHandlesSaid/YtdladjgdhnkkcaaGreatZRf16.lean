
/-
  Contract: whether a message may be.
  Conditions: the node lies in memory.
-/
import Derived.Test.YtdladjgdhnkkcaaGreatZRf12
import Derived.BigQuiet
namespace Go.Proofs.YtdladjgdhnkkcaaGreat
open Go.RowKit
set_option linter.unusedVariables false
set_option linter.unusedSimpArgs false
set_option maxHeartbeats 20000000

theorem folm_step {mt t : Int} {es : List En} {k : Nat} (h : k < es.length) : Rf.folm mt t (es.drop k) = (decide (t ≤ (es.getD k default).1 ∧ 1 ≤ (es.getD k default).1 ∧ (es.getD k default).1 ≤ mt ∧ (es.getD k default).2.size ≤ 4096) && Rf.folm mt (es.getD k default).1 (es.drop (k + 1))) := by
  rw [List.drop_eq_getElem_cons h]
  have e : es.getD k default = es[k] := by simp [List.getD, h]
  rw [e]
  rfl

set_option maxRecDepth 20000 in
theorem takes_calls {base g : Nat} {col : Nat → Nat} {r : Nod} {x : NdX} {L : List MsgV} {w : World} (H : Hid (Nd 53 base g col r x L w)) (hcl : r.conf.length ≤ 20000000000000) (m : Msg) (A : Option Addr) (cap : Nat) (hm : Hid (RdE w A m.es)) (hml : m.es.length ≤ 9223372036854775807) :
    Calls Tryz.prog 18 #[.pointer (some ⟨g, 0, none⟩), msgV m A cap] w fun e w' => e = .returned (.bool (Rf.takes r m)) ∧ Below w.heap.size w w' := by
  obtain ⟨q, hq⟩ : ∃ q, q = Rf.takes r m := ⟨_, rfl⟩
  rw [← hq]
  have HQ := Lib.hid hq
  unfold Rf.takes Rf.takes1 at HQ
  clear hq
  obtain ⟨id, conf, term, vote, role, leader, b, bt, es, snap, commit, left, wait, votes, next, mtch⟩ := r
  obtain ⟨mk, ms, md, mt, mi, ml, mc, my, me, mdt⟩ := m
  simp only at hcl hml
  have hC := H.out.blk.cells
  dsimp only [nodeC] at hC
  have hgl := H.out.blk.lt
  have HB1 := Lib.hid (bel_new (Below.refl w.heap.size w) (.cells #[.int .i64 mk, .int .i64 ms, .int .i64 md, .int .i64 mt, .int .i64 mi, .int .i64 ml, .int .i64 mc, .bool my, .slice A me.length cap, .string mdt] 30))
  have N1 := Lib.hid (H.out.bel HB1.out)
  have HM1 := Lib.hid (Blk.new w 30 #[.int .i64 mk, .int .i64 ms, .int .i64 md, .int .i64 mt, .int .i64 mi, .int .i64 ml, .int .i64 mc, .bool my, .slice A me.length cap, .string mdt])
  have HE1 := Lib.hid (hm.out.bel HB1.out)
  have HCT := Lib.hid (fun W (hR : Hid (RdI W x.cA conf)) => contains_calls x.cA x.cc conf ms W hR (by omega))
  by_cases h1 : 1 ≤ mk
  rotate_left
  · have HF := Lib.hid (show q = false from by rw [HQ.out]; simp [h1])
    have h1d : mk < 1 := by omega
    have h1b : decide (mk < 1) = true := decide_eq_true h1d
    go_enter Tryz.func18, Tryz.ntmps18
    go_wp2_with fail
    go_quiet (fail)
    go_wp2_with fail
    go_ret
    exact ⟨ret_bool HF.out.symm, bel_drewN HB1.out nq⟩
  have h1b : decide (mk < 1) = false := decide_eq_false (by omega)
  have h1c : ¬ mk < 1 := by omega
  by_cases h2 : mk ≤ 5
  rotate_left
  · have HF := Lib.hid (show q = false from by rw [HQ.out]; simp [h2])
    have h2d : 5 < mk := by omega
    have h2b : decide (5 < mk) = true := decide_eq_true h2d
    go_enter Tryz.func18, Tryz.ntmps18
    go_wp2_with fail
    go_quiet (fail)
    go_wp2_with fail
    go_ret
    exact ⟨ret_bool HF.out.symm, bel_drewN HB1.out nq⟩
  have h2b : decide (5 < mk) = false := decide_eq_false (by omega)
  have h2c : ¬ 5 < mk := by omega
  by_cases h3 : md = id
  rotate_left
  · have HF := Lib.hid (show q = false from by rw [HQ.out]; simp [h3])
    have h3b : (md != id) = true := by rw [bne_iff_ne]; exact h3
    go_enter Tryz.func18, Tryz.ntmps18
    go_wp2_with fail
    go_quiet (fail)
    go_wp2_with fail
    go_ret
    exact ⟨ret_bool HF.out.symm, bel_drewN HB1.out nq⟩
  obtain rfl : id = md := h3.symm
  by_cases h4 : ms ≠ id
  rotate_left
  · have HF := Lib.hid (show q = false from by rw [HQ.out]; simp [Decidable.not_not.1 h4])
    obtain rfl : id = ms := (Decidable.not_not.1 h4).symm
    go_enter Tryz.func18, Tryz.ntmps18
    go_wp2_with fail
    go_quiet (fail)
    go_wp2_with fail
    go_ret
    exact ⟨ret_bool HF.out.symm, bel_drewN HB1.out nq⟩
  have h4b : (ms == id) = false := by rw [beq_eq_false_iff_ne]; exact h4
  have h4d : decide (ms = id) = false := decide_eq_false h4
  by_cases h5 : ms ∈ conf
  rotate_left
  · have HF := Lib.hid (show q = false from by rw [HQ.out]; simp [h5])
    rw [decide_eq_false h5] at HCT
    go_enter Tryz.func18, Tryz.ntmps18
    go_wp2_with fail
    go_quiet (((go_at_call 42; exact quiet_of_eq (HCT.out _ (Lib.hid (N1.out.conf_rd.1.bel (bel_drewN (Below.refl _ _) _)))))))
    go_wp2_with fail
    go_ret
    exact ⟨ret_bool HF.out.symm, bel_drewN HB1.out nq⟩
  rw [decide_eq_true h5] at HCT
  by_cases h6 : 1 ≤ mt
  rotate_left
  · have HF := Lib.hid (show q = false from by rw [HQ.out]; simp [h6])
    have h6d : mt < 1 := by omega
    have h6b : decide (mt < 1) = true := decide_eq_true h6d
    go_enter Tryz.func18, Tryz.ntmps18
    go_wp2_with fail
    go_quiet (((go_at_call 42; exact quiet_of_eq (HCT.out _ (Lib.hid (N1.out.conf_rd.1.bel (bel_drewN (Below.refl _ _) _)))))))
    go_wp2_with fail
    go_ret
    exact ⟨ret_bool HF.out.symm, bel_drewN HB1.out nq⟩
  have h6b : decide (mt < 1) = false := decide_eq_false (by omega)
  have h6c : ¬ mt < 1 := by omega
  by_cases h7 : mt ≤ 1099511627776
  rotate_left
  · have HF := Lib.hid (show q = false from by rw [HQ.out]; simp [h7])
    have h7d : 1099511627776 < mt := by omega
    have h7b : decide (1099511627776 < mt) = true := decide_eq_true h7d
    go_enter Tryz.func18, Tryz.ntmps18
    go_wp2_with fail
    go_quiet (((go_at_call 42; exact quiet_of_eq (HCT.out _ (Lib.hid (N1.out.conf_rd.1.bel (bel_drewN (Below.refl _ _) _)))))))
    go_wp2_with fail
    go_ret
    exact ⟨ret_bool HF.out.symm, bel_drewN HB1.out nq⟩
  have h7b : decide (1099511627776 < mt) = false := decide_eq_false (by omega)
  have h7c : ¬ 1099511627776 < mt := by omega
  have hq1 : q = (Rf.takes2 ⟨mk, ms, id, mt, mi, ml, mc, my, me, mdt⟩ && Rf.folm mt ml me) := by rw [HQ.out]; simp [h1, h2, h4, h5, h6, h7]
  have HQ1 := Lib.hid hq1
  have h5' := Lib.hid h5
  clear hq1 h5
  by_cases ht : 0 ≤ mi ∧ mi ≤ 1099511627776 ∧ 0 ≤ ml ∧ ml ≤ mt ∧ 0 ≤ mc ∧ mc ≤ 1099511627776 ∧ me.length ≤ 8 ∧ mdt.size ≤ 60000
  rotate_left
  · have HF := Lib.hid (show q = false from by
      rw [HQ1.out]
      have : Rf.takes2 ⟨mk, ms, id, mt, mi, ml, mc, my, me, mdt⟩ = false := by
        rw [Bool.eq_false_iff]
        intro h
        unfold Rf.takes2 at h
        simp only [Bool.and_eq_true, decide_eq_true_eq] at h
        exact ht (by omega)
      rw [this, Bool.false_and])
    have HN := Lib.hid ht
    clear ht
    go_enter Tryz.func18, Tryz.ntmps18
    go_wp2_with fail
    go_quiet (((go_at_call 42; exact quiet_of_eq (HCT.out _ (Lib.hid (N1.out.conf_rd.1.bel (bel_drewN (Below.refl _ _) _)))))))
    have HB2 := Lib.hid (bel_drewN HB1.out nq)
    have hmm2 := ((HM1.out).drewN nq).cells
    generalize (w.alloc (.cells #[.int .i64 mk, .int .i64 ms, .int .i64 id, .int .i64 mt, .int .i64 mi, .int .i64 ml, .int .i64 mc, .bool my, .slice A me.length cap, .string mdt] 30)).drewN nq = w2 at *
    clear hC hgl
    go_wp2_with fail
    all_goals first
      | (exfalso; have := HN.out; omega)
      | (go_ret
         exact ⟨ret_bool HF.out.symm, HB2.out⟩)
  obtain ⟨t1, t2, t3, t4, t5, t6, t7, t8⟩ := ht
  have HF0 := Lib.hid (show q = Rf.folm mt ml me from by
    rw [HQ1.out]
    have : Rf.takes2 ⟨mk, ms, id, mt, mi, ml, mc, my, me, mdt⟩ = true := by unfold Rf.takes2; simp [t1, t2, t3, t4, t5, t6, t7, t8]
    rw [this, Bool.true_and])
  have s1 : ¬ mi < 0 := by omega
  have s2 : ¬ 1099511627776 < mi := by omega
  have s3 : ¬ ml < 0 := by omega
  have s4 : ¬ mt < ml := by omega
  have s5 : ¬ mc < 0 := by omega
  have s6 : ¬ 1099511627776 < mc := by omega
  have s7 : (me.length : Int) ≤ 8 := by omega
  have s8 : (mdt.size : Int) ≤ 60000 := by omega
  go_enter Tryz.func18, Tryz.ntmps18
  go_wp2_with fail
  go_quiet (((go_at_call 42; exact quiet_of_eq (HCT.out _ (Lib.hid (N1.out.conf_rd.1.bel (bel_drewN (Below.refl _ _) _)))))))
  have HB2 := Lib.hid (bel_drewN HB1.out nq)
  have HM2 := Lib.hid ((HM1.out).drewN nq)
  have hmm2 := HM2.out.cells
  have HE2 := Lib.hid (HE1.out.bel (bel_drewN (Below.refl _ _) nq))
  generalize (w.alloc (.cells #[.int .i64 mk, .int .i64 ms, .int .i64 id, .int .i64 mt, .int .i64 mi, .int .i64 ml, .int .i64 mc, .bool my, .slice A me.length cap, .string mdt] 30)).drewN nq = w2 at *
  clear hC hgl
  go_wp2_with fail
  go_loopg [5, 7, 104] me.length (fun g v5 v7 v104 W => ∃ (k : Nat) (t' : Int), k + g = me.length ∧ v104 = .int .i64 k ∧ v5 = .int .i64 t' ∧ Below w2.heap.size w2 W ∧ Hid (q = Rf.folm mt t' (me.drop k)))
  case atStart => exact ⟨0, ml, by omega, rfl, rfl, Below.refl _ _, Lib.hid HF0.out⟩
  case round =>
    obtain ⟨k, t', hk, rfl, rfl, hb, HI⟩ := hrel
    have hmm3 : ∀ i, wr.cell? ⟨w.heap.size, i, none⟩ = (#[.int .i64 mk, .int .i64 ms, .int .i64 id, .int .i64 mt, .int .i64 mi, .int .i64 ml, .int .i64 mc, .bool my, .slice A me.length cap, .string mdt] : Array Value)[i]? := (HM2.out.bel hb).cells
    have hz3 := (HM2.out.bel hb).lt
    clear hmm2
    by_cases hlt : k < me.length
    · have hg : 0 < gk := by omega
      have hl : (k : Int) < (me.length : Int) := by omega
      have HK := Lib.hid hk
      clear hk
      obtain ⟨eb, eo, rfl, hbl, hc1, hc2⟩ := HE2.out k hlt
      have hw1 := (hb.cell (p := ⟨eb, eo + k * 2, none⟩) hbl).trans hc1
      have hw2 := (hb.cell (p := ⟨eb, eo + k * 2 + 1, none⟩) hbl).trans hc2
      have hst := folm_step (mt := mt) (t := t') hlt
      generalize me.getD k default = c at *
      obtain ⟨ct, cs⟩ := c
      have HS := Lib.hid hst
      clear hst hc1 hc2
      simp only at hw1 hw2
      by_cases hok : t' ≤ ct ∧ 1 ≤ ct ∧ ct ≤ mt ∧ cs.size ≤ 4096
      · have HO := Lib.hid hok
        obtain ⟨o1, o2, o3, o4⟩ := hok
        have o5 : (cs.size : Int) ≤ 4096 := by omega
        have o6 : ¬ ct < max t' 1 := by omega
        go_wp2_with fail
        all_goals first
          | omega
          | (go_roundg (gk - 1)
             case rel => exact ⟨k + 1, ct, by have := HK.out; omega, by go_num, rfl, bel_new hb _, Lib.hid (by rw [HI.out, HS.out, decide_eq_true HO.out, Bool.true_and])⟩
             case measure => omega)
      · have hrf : q = false := by
          rw [HI.out, HS.out]
          simp only
          rw [decide_eq_false hok, Bool.false_and]
        have HN := Lib.hid hok
        have HF2 := Lib.hid hrf
        clear hok hrf
        go_wp2_with fail
        all_goals first
          | (exfalso; have := HN.out; omega)
          | (go_ret
             exact ⟨ret_bool HF2.out.symm, HB2.out.trans ((bel_new hb _).mono HB2.out.size)⟩)
    · have hke : k = me.length := by omega
      subst hke
      have hrt : q = true := by rw [HI.out, List.drop_length]; rfl
      have HT := Lib.hid hrt
      clear hk hlt hrt
      go_wp2_with fail
      go_ret
      exact ⟨ret_bool HT.out.symm, HB2.out.trans (hb.mono HB2.out.size)⟩
end Go.Proofs.YtdladjgdhnkkcaaGreat
