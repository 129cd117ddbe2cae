
/-
  Contracts: whether a leader's numbers, a node are right.
  Conditions: the node can be read.
-/
import Derived.Test.YtdladjgdhnkkcaaGreatZRf17ToRf19
namespace Go.Proofs.YtdladjgdhnkkcaaGreat
open Go.RowKit
set_option linter.unusedVariables false
set_option linter.unusedSimpArgs false
set_option maxHeartbeats 20000000

set_option maxRecDepth 20000 in
theorem rfcheck_calls (r : Nod) (x : NdX) (w : World) (h : Hid (RdR w r x)) :
    Calls Tryz.prog 12 #[raftV r x] w fun e w' => e = .returned (.bool (Rf.chk r)) ∧ Below w.heap.size w w' := by
  obtain ⟨q, hq⟩ : ∃ q, q = Rf.chk r := ⟨_, rfl⟩
  rw [← hq]
  have HQ := Lib.hid hq
  unfold Rf.chk Rf.chk1 at HQ
  clear hq
  have HCL := Lib.hid (fun (n : Int) (W : World) (hb : Below w.heap.size w W) (hz : Hid (Blk W w.heap.size 28 (nodeC r x 0).pop)) => clos14_calls n w.heap.size r x W hz (Lib.hid (h.out.bel hb)))
  have HVO := Lib.hid (fun (W : World) (hb : Below w.heap.size w W) => voted_calls r x W (Lib.hid (h.out.bel hb)))
  have HKN := Lib.hid (fun (W : World) (hb : Below w.heap.size w W) => known_calls r x W (Lib.hid (h.out.bel hb)))
  obtain ⟨bV, hbV⟩ : ∃ bV, bV = Rf.voted r := ⟨_, rfl⟩
  obtain ⟨bK, hbK⟩ : ∃ bK, bK = Rf.known r := ⟨_, rfl⟩
  obtain ⟨c2, hc2⟩ : ∃ c2, c2 = Rf.chk2 r := ⟨_, rfl⟩
  obtain ⟨c3, hc3⟩ : ∃ c3, c3 = Rf.chk3 r := ⟨_, rfl⟩
  have hq4 : Rf.chk4 r = if r.role = 0 then true else if r.role = 1 then bV else if r.role = 2 then bK else false := by rw [hbV, hbK]; rfl
  rw [← hbV] at HVO
  rw [← hbK] at HKN
  rw [hq4, ← hc2, ← hc3] at HQ
  have HC2 := Lib.hid hc2
  have HC3 := Lib.hid hc3
  unfold Rf.chk2 at HC2
  unfold Rf.chk3 at HC3
  clear hbV hbK hc2 hc3 hq4
  obtain ⟨id, conf, term, vote, role, leader, b, bt, es, snap, commit, left, wait, votes, next, mtch⟩ := r
  obtain ⟨cA, cc, eA, ec, vA, vc, nA, nc, mA, mc, oA, oc⟩ := x
  have HB1 := Lib.hid (bel_new (Below.refl w.heap.size w) (.cells #[.int .i64 id, .slice cA conf.length cc, .int .i64 term, .int .i64 vote, .int .i64 role, .int .i64 leader, .int .i64 b, .int .i64 bt, .slice eA es.length ec, .string snap, .int .i64 commit, .int .i64 left, .int .i64 wait, .slice vA votes.length vc, .slice nA next.length nc, .slice mA mtch.length mc] 28))
  have HZ1 := Lib.hid (Blk.new w 28 #[.int .i64 id, .slice cA conf.length cc, .int .i64 term, .int .i64 vote, .int .i64 role, .int .i64 leader, .int .i64 b, .int .i64 bt, .slice eA es.length ec, .string snap, .int .i64 commit, .int .i64 left, .int .i64 wait, .slice vA votes.length vc, .slice nA next.length nc, .slice mA mtch.length mc])
  have H1 := Lib.hid (h.out.bel HB1.out)
  have el2 := h.out.es2
  have nl2 := h.out.next2
  have ml2 := h.out.mtch2
  have vl2 := h.out.votes2
  have HCL0 := HCL
  clear HCL
  have HCL : Hid (∀ (n : Int) (W : World), Below w.heap.size w W → Hid (Blk W w.heap.size 28 #[.int .i64 id, .slice cA conf.length cc, .int .i64 term, .int .i64 vote, .int .i64 role, .int .i64 leader, .int .i64 b, .int .i64 bt, .slice eA es.length ec, .string snap, .int .i64 commit, .int .i64 left, .int .i64 wait, .slice vA votes.length vc, .slice nA next.length nc, .slice mA mtch.length mc]) → Calls Tryz.prog 41 #[.int .i64 n, .pointer (some ⟨w.heap.size, 0, none⟩)] W fun e w' => e = .returned (.bool (Rf.isIn conf n)) ∧ W = w') := Lib.hid (fun n W hb hz => HCL0.out n W hb hz)
  simp only at el2 nl2 ml2 vl2
  have HQC := Lib.hid (fun W (hR : Hid (RdI W cA conf)) => qcheck_calls cA cc conf W hR h.out.confl h.out.confc)
  have HTC := Lib.hid (fun W (hR : RdE W eA es) => check_calls b bt eA ec es W hR (by omega))
  have HL2 := Lib.hid (fun W (hR : RdE W eA es) => last2_calls b bt eA ec es W hR (by omega))
  simp only at HQ
  obtain ⟨a1, h1⟩ : ∃ a1, a1 = Qm.chk conf := ⟨_, rfl⟩
  obtain ⟨a3, h3⟩ : ∃ a3, a3 = Rf.isIn conf id := ⟨_, rfl⟩
  obtain ⟨a6, h6⟩ : ∃ a6, a6 = Rf.isIn conf vote := ⟨_, rfl⟩
  obtain ⟨a7, h7⟩ : ∃ a7, a7 = Rf.isIn conf leader := ⟨_, rfl⟩
  obtain ⟨a8, h8⟩ : ∃ a8, a8 = Tr.chk b bt es := ⟨_, rfl⟩
  obtain ⟨lN, hlN⟩ : ∃ lN, lN = Tr.lastN b bt es := ⟨_, rfl⟩
  obtain ⟨lT, hlT⟩ : ∃ lT, lT = Tr.lastT b bt es := ⟨_, rfl⟩
  rw [← h1, ← h3, ← h6, ← h7, ← h8] at HQ
  rw [← h1] at HQC
  rw [← h8] at HTC
  rw [← hlN, ← hlT] at HL2
  rw [← hlN, ← hlT] at HC2
  have HCI := Lib.hid (HCL.out id)
  have HCV := Lib.hid (HCL.out vote)
  have HCD := Lib.hid (HCL.out leader)
  rw [← h3] at HCI
  rw [← h6] at HCV
  rw [← h7] at HCD
  have hz : ∀ i, (w.alloc (.cells #[.int .i64 id, .slice cA conf.length cc, .int .i64 term, .int .i64 vote, .int .i64 role, .int .i64 leader, .int .i64 b, .int .i64 bt, .slice eA es.length ec, .string snap, .int .i64 commit, .int .i64 left, .int .i64 wait, .slice vA votes.length vc, .slice nA next.length nc, .slice mA mtch.length mc] 28)).cell? ⟨w.heap.size, i, none⟩ = (#[.int .i64 id, .slice cA conf.length cc, .int .i64 term, .int .i64 vote, .int .i64 role, .int .i64 leader, .int .i64 b, .int .i64 bt, .slice eA es.length ec, .string snap, .int .i64 commit, .int .i64 left, .int .i64 wait, .slice vA votes.length vc, .slice nA next.length nc, .slice mA mtch.length mc] : Array Value)[i]? := HZ1.out.cells
  clear h1 h3 h6 h7 h8 hlN hlT
  go_enter Tryz.func12, Tryz.ntmps12
  go_wp2_with fail
  generalize w.alloc (.cells #[.int .i64 id, .slice cA conf.length cc, .int .i64 term, .int .i64 vote, .int .i64 role, .int .i64 leader, .int .i64 b, .int .i64 bt, .slice eA es.length ec, .string snap, .int .i64 commit, .int .i64 left, .int .i64 wait, .slice vA votes.length vc, .slice nA next.length nc, .slice mA mtch.length mc] 28) = w1 at *
  refine (HQC.out w1 (Lib.hid H1.out.conf)).mono ?_
  rintro e w' ⟨rfl, rfl⟩
  cases a1 with
  | false =>
    have HF := Lib.hid (show q = false from by rw [HQ.out]; simp)
    go_wp2_with fail
    go_ret
    exact ⟨ret_bool HF.out.symm, HB1.out⟩
  | true =>
  by_cases hid0 : id = 0
  · have HF := Lib.hid (show q = false from by rw [HQ.out]; simp [hid0])
    have hidb : (id == 0) = true := by rw [beq_iff_eq]; exact hid0
    go_wp2_with fail
    go_ret
    exact ⟨ret_bool HF.out.symm, HB1.out⟩
  have hidb : (id == 0) = false := by rw [beq_eq_false_iff_ne]; exact hid0
  go_wp2_with fail
  refine (HCI.out w1 HB1.out HZ1).mono ?_
  rintro e w' ⟨rfl, rfl⟩
  cases a3 with
  | false =>
    have HF := Lib.hid (show q = false from by rw [HQ.out]; simp)
    go_wp2_with fail
    go_ret
    exact ⟨ret_bool HF.out.symm, HB1.out⟩
  | true =>
  by_cases ht : 0 ≤ term ∧ term ≤ 1099511627776
  rotate_left
  · have HF := Lib.hid (show q = false from by
      rw [HQ.out]
      have : (decide (0 ≤ term) && decide (term ≤ 1099511627776)) = false := by rw [← Bool.decide_and]; exact decide_eq_false ht
      by_cases h0 : 0 ≤ term
      · rw [decide_eq_true h0, Bool.true_and] at this; rw [this]; simp
      · rw [decide_eq_false h0]; simp)
    have HN := Lib.hid ht
    clear ht
    go_wp2_with fail
    all_goals first
      | (exfalso; have := HN.out; omega)
      | (go_ret
         exact ⟨ret_bool HF.out.symm, HB1.out⟩)
  obtain ⟨ht0, ht1⟩ := ht
  have ht0' : ¬ term < 0 := by omega
  have ht1' : ¬ 1099511627776 < term := by omega
  go_wp2_with fail
  refine (HCV.out w1 HB1.out HZ1).mono ?_
  rintro e w' ⟨rfl, rfl⟩
  cases a6 with
  | false =>
    have HF := Lib.hid (show q = false from by rw [HQ.out]; simp)
    go_wp2_with fail
    go_ret
    exact ⟨ret_bool HF.out.symm, HB1.out⟩
  | true =>
  go_wp2_with fail
  refine (HCD.out w1 HB1.out HZ1).mono ?_
  rintro e w' ⟨rfl, rfl⟩
  cases a7 with
  | false =>
    have HF := Lib.hid (show q = false from by rw [HQ.out]; simp)
    go_wp2_with fail
    go_ret
    exact ⟨ret_bool HF.out.symm, HB1.out⟩
  | true =>
  go_wp2_with fail
  refine (HTC.out w1 H1.out.es).mono ?_
  rintro e w2 ⟨rfl, hb2⟩
  have HB2 := Lib.hid (bel_tr HB1.out hb2)
  have H2 := Lib.hid (H1.out.bel hb2)
  have HZ2 := Lib.hid (HZ1.out.bel hb2)
  have hz2 : ∀ i, w2.cell? ⟨w.heap.size, i, none⟩ = (#[.int .i64 id, .slice cA conf.length cc, .int .i64 term, .int .i64 vote, .int .i64 role, .int .i64 leader, .int .i64 b, .int .i64 bt, .slice eA es.length ec, .string snap, .int .i64 commit, .int .i64 left, .int .i64 wait, .slice vA votes.length vc, .slice nA next.length nc, .slice mA mtch.length mc] : Array Value)[i]? := HZ2.out.cells
  clear hz hb2
  cases a8 with
  | false =>
    have HF := Lib.hid (show q = false from by rw [HQ.out]; simp)
    go_wp2_with fail
    go_ret
    exact ⟨ret_bool HF.out.symm, HB2.out⟩
  | true =>
  go_wp2_with fail
  refine (HL2.out w2 H2.out.es).mono ?_
  rintro e w3 ⟨rfl, hb3⟩
  have HB3 := Lib.hid (bel_tr HB2.out hb3)
  have HZ3 := Lib.hid (HZ2.out.bel hb3)
  have hz3 : ∀ i, w3.cell? ⟨w.heap.size, i, none⟩ = (#[.int .i64 id, .slice cA conf.length cc, .int .i64 term, .int .i64 vote, .int .i64 role, .int .i64 leader, .int .i64 b, .int .i64 bt, .slice eA es.length ec, .string snap, .int .i64 commit, .int .i64 left, .int .i64 wait, .slice vA votes.length vc, .slice nA next.length nc, .slice mA mtch.length mc] : Array Value)[i]? := HZ3.out.cells
  have HQ2 := Lib.hid (show q = (c2 && c3 && if role = 0 then true else if role = 1 then bV else if role = 2 then bK else false) from by rw [HQ.out]; simp [hid0, ht0, ht1])
  clear hz2 hb3
  by_cases hc : lT ≤ term ∧ snap.size ≤ 60000 ∧ b ≤ commit ∧ commit ≤ lN ∧ 0 ≤ left ∧ left ≤ 100 ∧ 10 ≤ wait ∧ wait < 20
  rotate_left
  · have HF := Lib.hid (show q = false from by
      have : c2 = false := by
        rw [HC2.out, Bool.eq_false_iff]
        intro hh
        simp only [Bool.and_eq_true, decide_eq_true_eq] at hh
        exact hc (by omega)
      rw [HQ2.out, this]; rfl)
    have HN := Lib.hid hc
    clear hc
    go_wp2_with fail
    all_goals first
      | (exfalso; have := HN.out; omega)
      | (go_ret
         exact ⟨ret_bool HF.out.symm, HB3.out⟩)
  have HQ3 := Lib.hid (show q = (c3 && if role = 0 then true else if role = 1 then bV else if role = 2 then bK else false) from by
    have : c2 = true := by
      rw [HC2.out]
      simp only [Bool.and_eq_true, decide_eq_true_eq]
      omega
    rw [HQ2.out, this, Bool.true_and])
  obtain ⟨s1, s2, s3, s4, s5, s6, s7, s8⟩ := hc
  have s1' : ¬ term < lT := by omega
  have s2' : ¬ (60000 : Int) < (snap.size : Int) := by omega
  have s3' : ¬ commit < b := by omega
  have s4' : ¬ lN < commit := by omega
  have s5' : ¬ left < 0 := by omega
  have s6' : ¬ 100 < left := by omega
  have s7' : ¬ wait < 10 := by omega
  have s8' : ¬ 20 ≤ wait := by omega
  clear HCL HCL0 HCI HCV HCD HQC HTC HL2 HC2 HQ HQ2
  have n0 : (0 : Int) ≤ (next.length : Int) := by omega
  have m0 : (0 : Int) ≤ (mtch.length : Int) := by omega
  have hws : IntKind.i64.wrap ((next.length : Int) + (mtch.length : Int)) = (next.length : Int) + (mtch.length : Int) := IntWalk.i64_in _ (by omega)
  by_cases r1 : role = 1
  · subst r1
    by_cases hs : next.length + mtch.length = 0
    · have hsI : ¬ (0 : Int) < (next.length : Int) + (mtch.length : Int) := by omega
      have HF := Lib.hid (show q = bV from by rw [HQ3.out, HC3.out]; simp [hs])
      clear hs
      go_wp2_with fail
      refine (HVO.out w3 HB3.out).mono ?_
      rintro e w4 ⟨rfl, hb4⟩
      have HB4 := Lib.hid (bel_tr HB3.out hb4)
      clear hb4
      go_wp2_with fail
      go_ret
      exact ⟨ret_bool HF.out.symm, HB4.out⟩
    · have hsI : (0 : Int) < (next.length : Int) + (mtch.length : Int) := by omega
      have HF := Lib.hid (show q = false from by rw [HQ3.out, HC3.out]; rw [decide_eq_false hs]; simp)
      clear hs
      go_wp2_with fail
      go_ret
      exact ⟨ret_bool HF.out.symm, HB3.out⟩
  have r1b : (role == 1) = false := by rw [beq_eq_false_iff_ne]; exact r1
  have r1c : (role != 1) = true := by rw [bne_iff_ne]; exact r1
  by_cases hv : votes.length = 0
  rotate_left
  · have hvI : (0 : Int) < (votes.length : Int) := by omega
    have hvN : 0 < votes.length := by omega
    have hvE : ¬ votes = [] := fun e => hv (by rw [e]; rfl)
    have HF := Lib.hid (show q = false from by rw [HQ3.out, HC3.out, decide_eq_false r1, decide_eq_false hv]; rfl)
    clear hv
    go_wp2_with fail
    go_ret
    exact ⟨ret_bool HF.out.symm, HB3.out⟩
  have hvI : ¬ (0 : Int) < (votes.length : Int) := by omega
  have hvN : ¬ 0 < votes.length := by omega
  by_cases r2 : role = 2
  · subst r2
    have HF := Lib.hid (show q = bK from by rw [HQ3.out, HC3.out]; simp [hv])
    clear hv
    go_wp2_with fail
    refine (HKN.out w3 HB3.out).mono ?_
    rintro e w4 ⟨rfl, hb4⟩
    have HB4 := Lib.hid (bel_tr HB3.out hb4)
    clear hb4
    go_wp2_with fail
    go_ret
    exact ⟨ret_bool HF.out.symm, HB4.out⟩
  have r2b : (role == 2) = false := by rw [beq_eq_false_iff_ne]; exact r2
  have r2c : (role != 2) = true := by rw [bne_iff_ne]; exact r2
  by_cases hs : next.length + mtch.length = 0
  rotate_left
  · have hsI : (0 : Int) < (next.length : Int) + (mtch.length : Int) := by omega
    have HF := Lib.hid (show q = false from by rw [HQ3.out, HC3.out]; rw [decide_eq_false r2, decide_eq_false hs]; simp)
    clear hs hv
    go_wp2_with fail
    go_ret
    exact ⟨ret_bool HF.out.symm, HB3.out⟩
  have hsI : ¬ (0 : Int) < (next.length : Int) + (mtch.length : Int) := by omega
  by_cases r0 : role = 0
  · have HF := Lib.hid (show q = true from by rw [HQ3.out, HC3.out]; simp [hv, hs, r0])
    have r0b : (role == 0) = true := by rw [beq_iff_eq]; exact r0
    clear hs hv
    go_wp2_with fail
    go_ret
    exact ⟨ret_bool HF.out.symm, HB3.out⟩
  have HF := Lib.hid (show q = false from by rw [HQ3.out, HC3.out]; simp [r0, r1, r2])
  have r0b : (role == 0) = false := by rw [beq_eq_false_iff_ne]; exact r0
  clear hs hv
  go_wp2_with fail
  go_ret
  exact ⟨ret_bool HF.out.symm, HB3.out⟩
end Go.Proofs.YtdladjgdhnkkcaaGreat
