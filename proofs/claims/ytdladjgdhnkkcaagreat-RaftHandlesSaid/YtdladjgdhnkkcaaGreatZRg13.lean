
/-
  Contract of the reference of layer 14: whether a message may be.
  Conditions: the node and the message can be read.
-/
import Derived.Test.YtdladjgdhnkkcaaGreatZRg10ToRg12
import Derived.BigQuiet
namespace Go.Proofs.YtdladjgdhnkkcaaGreat
open Go.RowKit
set_option linter.unusedVariables false
set_option linter.unusedSimpArgs false
set_option maxHeartbeats 20000000

namespace Rf
theorem fol_last : ∀ {t : Int} {l : List En}, Tr.fol t l = true → ∀ e ∈ l, e.1 ≤ (l.getD (l.length - 1) default).1
  | t, [], _, e, he => by simp at he
  | t, [x], _, e, he => by simp at he; subst he; simp
  | t, x :: y :: l, h, e, he => by
    have h2 : Tr.fol x.1 (y :: l) = true := by simp only [Tr.fol, Bool.and_eq_true] at h ⊢; exact h.2
    have k := fol_last h2
    have e1 : ((x :: y :: l).getD ((x :: y :: l).length - 1) default) = ((y :: l).getD ((y :: l).length - 1) default) := by simp [List.getD]
    rw [e1]
    rcases List.mem_cons.1 he with rfl | he
    · have := k y (by simp)
      simp only [Tr.fol, Tr.ok, Bool.and_eq_true, decide_eq_true_eq] at h2
      omega
    · exact k e he
theorem folm_of {T : Int} : ∀ {t : Int} {l : List En}, Tr.fol t l = true → (∀ e ∈ l, e.1 ≤ T) → folm T t l = true
  | t, [], _, _ => rfl
  | t, x :: l, h, k => by
    simp only [Tr.fol, Tr.ok, Bool.and_eq_true, decide_eq_true_eq] at h
    simp only [folm, Bool.and_eq_true, decide_eq_true_eq]
    exact ⟨⟨h.1.1, h.1.2.1, k x (by simp), h.1.2.2.2⟩, folm_of h.2 fun e he => k e (by simp [he])⟩
theorem folm_eq {T : Int} (hT : T ≤ 1099511627776) (t : Int) (l : List En) : folm T t l = (Tr.fol t l && (decide (l.length = 0) || decide ((l.getD (l.length - 1) default).1 ≤ T))) := by
  rw [Bool.eq_iff_iff]
  simp only [Bool.and_eq_true, Bool.or_eq_true, decide_eq_true_eq]
  constructor
  · intro h
    refine ⟨folm_fol hT h, ?_⟩
    rcases Nat.eq_zero_or_pos l.length with e | e
    · exact .inl e
    · refine .inr (folm_all h _ ?_)
      have hlt : l.length - 1 < l.length := by omega
      rw [show l.getD (l.length - 1) default = l[l.length - 1] from by simp [List.getD, hlt]]
      exact List.getElem_mem hlt
  · rintro ⟨h, k⟩
    refine folm_of h fun e he => ?_
    rcases k with k | k
    · rw [List.length_eq_zero_iff] at k; subst k; simp at he
    · have := fol_last h e he; omega
end Rf

set_option maxRecDepth 20000 in
theorem rtakes_calls (r : Nod) (x : NdX) (w : World) (h : Hid (RdR w r x)) (m : Msg) (A : Option Addr) (cap : Nat) (hm : Hid (m.es.length ≤ cap ∧ RdE w A m.es)) (hml : m.es.length ≤ 9223372036854775807) :
    Calls Tryz.prog 26 #[raftV r x, msgV m A cap] w fun e w' => e = .returned (.bool (Rf.takes r m)) ∧ Below w.heap.size w w' := by
  obtain ⟨q, hq⟩ : ∃ q, q = Rf.takes r m := ⟨_, rfl⟩
  rw [← hq]
  have HQ := Lib.hid hq
  unfold Rf.takes Rf.takes1 at HQ
  clear hq
  obtain ⟨id, conf, term, vote, role, leader, b, bt, es, snap, commit, left, wait, votes, next, mtch⟩ := r
  obtain ⟨cA, cc, eA, ec, vA, vc, nA, nc, mA, mc, oA, oc⟩ := x
  obtain ⟨mk, ms, md, mt, mi, ml, mcm, my, me, mdt⟩ := m
  simp only at hml
  have HB1 := Lib.hid (bel_new (bel_new (Below.refl w.heap.size w) (.cells #[.int .i64 id, .slice cA conf.length cc, .int .i64 term, .int .i64 vote, .int .i64 role, .int .i64 leader, .int .i64 b, .int .i64 bt, .slice eA es.length ec, .string snap, .int .i64 commit, .int .i64 left, .int .i64 wait, .slice vA votes.length vc, .slice nA next.length nc, .slice mA mtch.length mc] 28)) (.cells #[.int .i64 mk, .int .i64 ms, .int .i64 md, .int .i64 mt, .int .i64 mi, .int .i64 ml, .int .i64 mcm, .bool my, .slice A me.length cap, .string mdt] 30))
  have HCT := Lib.hid (has_calls cA cc conf ms ((w.alloc (.cells #[.int .i64 id, .slice cA conf.length cc, .int .i64 term, .int .i64 vote, .int .i64 role, .int .i64 leader, .int .i64 b, .int .i64 bt, .slice eA es.length ec, .string snap, .int .i64 commit, .int .i64 left, .int .i64 wait, .slice vA votes.length vc, .slice nA next.length nc, .slice mA mtch.length mc] 28)).alloc (.cells #[.int .i64 mk, .int .i64 ms, .int .i64 md, .int .i64 mt, .int .i64 mi, .int .i64 ml, .int .i64 mcm, .bool my, .slice A me.length cap, .string mdt] 30)) (Lib.hid (h.out.conf.bel HB1.out)) (by have := h.out.conf2; simp only at this; omega))
  have HFO := Lib.hid (rfollow_calls ml A cap me ((w.alloc (.cells #[.int .i64 id, .slice cA conf.length cc, .int .i64 term, .int .i64 vote, .int .i64 role, .int .i64 leader, .int .i64 b, .int .i64 bt, .slice eA es.length ec, .string snap, .int .i64 commit, .int .i64 left, .int .i64 wait, .slice vA votes.length vc, .slice nA next.length nc, .slice mA mtch.length mc] 28)).alloc (.cells #[.int .i64 mk, .int .i64 ms, .int .i64 md, .int .i64 mt, .int .i64 mi, .int .i64 ml, .int .i64 mcm, .bool my, .slice A me.length cap, .string mdt] 30)) (hm.out.2.bel HB1.out) hml)
  by_cases h1 : 1 ≤ mk
  rotate_left
  · have HF := Lib.hid (show q = false from by rw [HQ.out]; simp [h1])
    have h1d : mk < 1 := by omega
    clear h1 HQ
    go_enter Tryz.func26, Tryz.ntmps26
    go_wp2_with fail
    go_ret
    exact ⟨ret_bool HF.out.symm, HB1.out⟩
  have h1c : ¬ mk < 1 := by omega
  by_cases h2 : mk ≤ 5
  rotate_left
  · have HF := Lib.hid (show q = false from by rw [HQ.out]; simp [h2])
    have h2d : 5 < mk := by omega
    clear h2 HQ
    go_enter Tryz.func26, Tryz.ntmps26
    go_wp2_with fail
    go_ret
    exact ⟨ret_bool HF.out.symm, HB1.out⟩
  have h2c : ¬ 5 < mk := by omega
  by_cases h3 : md = id
  rotate_left
  · have HF := Lib.hid (show q = false from by rw [HQ.out]; simp [h3])
    have h3b : (md != id) = true := by rw [bne_iff_ne]; exact h3
    clear h3 HQ
    go_enter Tryz.func26, Tryz.ntmps26
    go_wp2_with fail
    go_ret
    exact ⟨ret_bool HF.out.symm, HB1.out⟩
  obtain rfl : id = md := h3.symm
  by_cases h4 : ms ≠ id
  rotate_left
  · have HF := Lib.hid (show q = false from by rw [HQ.out]; simp [Decidable.not_not.1 h4])
    obtain rfl : id = ms := (Decidable.not_not.1 h4).symm
    clear h4 HQ
    go_enter Tryz.func26, Tryz.ntmps26
    go_wp2_with fail
    go_ret
    exact ⟨ret_bool HF.out.symm, HB1.out⟩
  have h4b : (ms == id) = false := by rw [beq_eq_false_iff_ne]; exact h4
  by_cases h5 : ms ∈ conf
  rotate_left
  · have HF := Lib.hid (show q = false from by rw [HQ.out]; simp [h5])
    rw [decide_eq_false h5] at HCT
    clear h5 HQ
    go_enter Tryz.func26, Tryz.ntmps26
    go_wp2_with fail
    refine HCT.out.mono ?_
    rintro e w' ⟨rfl, rfl⟩
    go_wp2_with fail
    go_ret
    exact ⟨ret_bool HF.out.symm, HB1.out⟩
  rw [decide_eq_true h5] at HCT
  have HQ1 := Lib.hid (show q = ((decide (1 ≤ mt) && decide (mt ≤ 1099511627776)) && Rf.takes2 ⟨mk, ms, id, mt, mi, ml, mcm, my, me, mdt⟩ && Rf.folm mt ml me) from by rw [HQ.out]; simp [h1, h2, h4, h5])
  clear h1 h2 h4 h5 HQ
  by_cases ht : 1 ≤ mt ∧ mt ≤ 1099511627776 ∧ 0 ≤ mi ∧ mi ≤ 1099511627776 ∧ 0 ≤ ml ∧ ml ≤ mt ∧ 0 ≤ mcm ∧ mcm ≤ 1099511627776
  rotate_left
  · have HF := Lib.hid (show q = false from by
      rw [HQ1.out, Bool.eq_false_iff]
      intro h
      unfold Rf.takes2 at h
      simp only [Bool.and_eq_true, decide_eq_true_eq] at h
      exact ht (by omega))
    have HN := Lib.hid ht
    clear ht HQ1
    go_enter Tryz.func26, Tryz.ntmps26
    go_wp2_with fail
    refine HCT.out.mono ?_
    rintro e w' ⟨rfl, rfl⟩
    go_wp2_with fail
    all_goals first
      | (exfalso; have := HN.out; omega)
      | (go_ret
         exact ⟨ret_bool HF.out.symm, HB1.out⟩)
  obtain ⟨t1, t2, t3, t4, t5, t6, t7, t8⟩ := ht
  have HQ2 := Lib.hid (show q = ((decide (me.length ≤ 8) && decide (mdt.size ≤ 60000)) && Rf.folm mt ml me) from by rw [HQ1.out]; simp [Rf.takes2, t1, t2, t3, t4, t5, t6, t7, t8])
  have HFQ := Lib.hid (Rf.folm_eq t2 ml me)
  have s1 : ¬ mt < 1 := by omega
  have s2 : ¬ 1099511627776 < mt := by omega
  have s3 : ¬ mi < 0 := by omega
  have s4 : ¬ 1099511627776 < mi := by omega
  have s5 : ¬ ml < 0 := by omega
  have s6 : ¬ mt < ml := by omega
  have s7 : ¬ mcm < 0 := by omega
  have s8 : ¬ 1099511627776 < mcm := by omega
  clear t1 t2 t3 t4 t5 t6 t7 t8 HQ1
  by_cases hl : me.length ≤ 8
  rotate_left
  · have HF := Lib.hid (show q = false from by rw [HQ2.out]; simp [hl])
    have h8 : (8 : Int) < (me.length : Int) := by omega
    clear hl HQ2 HFQ
    go_enter Tryz.func26, Tryz.ntmps26
    go_wp2_with fail
    refine HCT.out.mono ?_
    rintro e w' ⟨rfl, rfl⟩
    go_wp2_with fail
    go_ret
    exact ⟨ret_bool HF.out.symm, HB1.out⟩
  have h8 : ¬ (8 : Int) < (me.length : Int) := by omega
  by_cases hd : mdt.size ≤ 60000
  rotate_left
  · have HF := Lib.hid (show q = false from by rw [HQ2.out]; simp [hd])
    have h9 : (60000 : Int) < (mdt.size : Int) := by omega
    clear hl hd HQ2 HFQ
    go_enter Tryz.func26, Tryz.ntmps26
    go_wp2_with fail
    refine HCT.out.mono ?_
    rintro e w' ⟨rfl, rfl⟩
    go_wp2_with fail
    go_ret
    exact ⟨ret_bool HF.out.symm, HB1.out⟩
  have h9 : ¬ (60000 : Int) < (mdt.size : Int) := by omega
  have HQ3 := Lib.hid (show q = (Tr.fol ml me && (decide (me.length = 0) || decide ((me.getD (me.length - 1) default).1 ≤ mt))) from by rw [HQ2.out, HFQ.out]; simp [hl, hd])
  clear HQ2 HFQ hd
  obtain ⟨fo, hfo⟩ : ∃ fo, fo = Tr.fol ml me := ⟨_, rfl⟩
  rw [← hfo] at HFO HQ3
  clear hfo
  cases fo with
  | false =>
    have HF := Lib.hid (show q = false from by rw [HQ3.out, Bool.false_and])
    clear hl HQ3
    go_enter Tryz.func26, Tryz.ntmps26
    go_wp2_with fail
    refine HCT.out.mono ?_
    rintro e w' ⟨rfl, rfl⟩
    go_wp2_with fail
    refine HFO.out.mono ?_
    rintro e w' ⟨rfl, rfl⟩
    go_wp2_with fail
    go_ret
    exact ⟨ret_bool HF.out.symm, HB1.out⟩
  | true =>
    by_cases h0 : me.length = 0
    · have HF := Lib.hid (show q = true from by rw [HQ3.out, decide_eq_true h0]; rfl)
      have HH0 := Lib.hid h0
      clear HQ3 h0
      go_enter Tryz.func26, Tryz.ntmps26
      go_wp2_with fail
      refine HCT.out.mono ?_
      rintro e w' ⟨rfl, rfl⟩
      go_wp2_with fail
      refine HFO.out.mono ?_
      rintro e w' ⟨rfl, rfl⟩
      go_wp2_with fail
      have hz : ((me.length : Int) == 0) = true := by rw [beq_iff_eq]; have := HH0.out; omega
      go_quiet (fail)
      go_wp2_with fail
      go_ret
      exact ⟨ret_bool HF.out.symm, bel_drewN HB1.out nq⟩
    · obtain ⟨k, hk⟩ : ∃ k, k = me.length - 1 := ⟨_, rfl⟩
      have HF := Lib.hid (show q = decide ((me.getD k default).1 ≤ mt) from by rw [HQ3.out, decide_eq_false h0, ← hk]; simp)
      obtain ⟨eb, eo, rfl, hbl, hc1, hc2⟩ := (hm.out.2.bel HB1.out) k (show k < me.length by omega)
      have HC1 := Lib.hid hc1
      clear hc1 hc2 HQ3
      have HH0 := Lib.hid h0
      have HKK := Lib.hid hk
      clear h0 hk
      go_enter Tryz.func26, Tryz.ntmps26
      go_wp2_with fail
      refine HCT.out.mono ?_
      rintro e w' ⟨rfl, rfl⟩
      go_wp2_with fail
      refine HFO.out.mono ?_
      rintro e w' ⟨rfl, rfl⟩
      go_wp2_with fail
      have hz : ((me.length : Int) == 0) = false := by rw [beq_eq_false_iff_ne]; have := HH0.out; omega
      have hw1 : IntKind.i64.wrap ((me.length : Int) - 1) = (k : Int) := by rw [IntWalk.i64_in _ (by omega)]; have := HH0.out; have := HKK.out; omega
      have hk0 : (0 : Int) ≤ (k : Int) := by omega
      have hk1 : (k : Int) < (me.length : Int) := by have := HH0.out; have := HKK.out; omega
      have hcc := HC1.out
      generalize (me.getD k default).1 = ct at *
      go_quiet (fail)
      go_wp2_with fail
      go_ret
      exact ⟨ret_bool HF.out.symm, bel_drewN HB1.out nq⟩
end Go.Proofs.YtdladjgdhnkkcaaGreat
