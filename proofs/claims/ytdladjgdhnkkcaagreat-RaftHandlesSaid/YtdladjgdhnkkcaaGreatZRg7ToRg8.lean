
/-
  2 texts in one.
  Conditions: stated lemma by lemma.
-/
import Derived.Test.YtdladjgdhnkkcaaGreatZRf23
import Derived.Deep.Cut
import Derived.BigQuiet
import Derived.Test.YtdladjgdhnkkcaaGreatZRf17ToRf19
/-
  Contract of the reference of layer 14: whether a candidate's votes are right.
  Conditions: the node can be read.
-/
namespace Go.Proofs.YtdladjgdhnkkcaaGreat
open Go.RowKit
set_option linter.unusedVariables false
set_option linter.unusedSimpArgs false
set_option maxHeartbeats 1000000

/-- a candidate's votes, and no numbers -/
def Rf.cand (r : Nod) : Bool := Rf.voted r && (decide (r.next.length = 0) && decide (r.mtch.length = 0))
set_option maxRecDepth 20000 in
theorem candidate_calls (r : Nod) (x : NdX) (w : World) (h : Hid (RdR w r x)) :
    Calls Tryz.prog 52 #[raftV r x] w fun e w' => e = .returned (.bool (Rf.cand r)) ∧ Below w.heap.size w w' := by
  obtain ⟨q, hq⟩ : ∃ q, q = Rf.cand r := ⟨_, rfl⟩
  rw [← hq]
  have HQ := Lib.hid hq
  unfold Rf.cand Rf.voted at HQ
  clear hq
  obtain ⟨id, conf, term, vote, role, leader, b, bt, es, snap, commit, left, wait, votes, next, mtch⟩ := r
  obtain ⟨cA, cc, eA, ec, vA, vc, nA, nc, mA, mc, oA, oc⟩ := x
  have HB1 := Lib.hid (bel_new (Below.refl w.heap.size w) (.cells #[.int .i64 id, .slice cA conf.length cc, .int .i64 term, .int .i64 vote, .int .i64 role, .int .i64 leader, .int .i64 b, .int .i64 bt, .slice eA es.length ec, .string snap, .int .i64 commit, .int .i64 left, .int .i64 wait, .slice vA votes.length vc, .slice nA next.length nc, .slice mA mtch.length mc] 28))
  have HZ1 := Lib.hid (Blk.new w 28 #[.int .i64 id, .slice cA conf.length cc, .int .i64 term, .int .i64 vote, .int .i64 role, .int .i64 leader, .int .i64 b, .int .i64 bt, .slice eA es.length ec, .string snap, .int .i64 commit, .int .i64 left, .int .i64 wait, .slice vA votes.length vc, .slice nA next.length nc, .slice mA mtch.length mc])
  have H1 := Lib.hid (h.out.bel HB1.out)
  have vl := h.out.votesl
  have vl2 := h.out.votes2
  have cl2 := h.out.conf2
  simp only at vl vl2 cl2
  have HWN := Lib.hid (fun W (hR : Hid (RdI W cA conf)) (hS : Hid (RdI W vA votes)) => rwins_calls cA vA cc vc conf votes W hR (by omega) hS (by omega))
  have HCC := Lib.hid (fun W (v : Int) (hR : Hid (RdI W cA conf)) => has_calls cA cc conf v W hR (by omega))
  have HCV := Lib.hid (fun W (v : Int) (k : Nat) (hk : k ≤ votes.length) (hR : Hid (RdI W vA votes)) => has_calls vA vc (votes.take k) v W (Lib.hid (hR.out.take k)) (by rw [List.length_take]; omega))
  obtain ⟨e0, he0⟩ : ∃ e0, e0 = (decide (next.length = 0) && decide (mtch.length = 0)) := ⟨_, rfl⟩
  simp only at HQ
  rw [← he0] at HQ
  have HE0 := Lib.hid he0
  clear he0
  by_cases h1 : vote = id
  rotate_left
  · have HF := Lib.hid (show q = false from by rw [HQ.out]; simp [h1])
    have h1b : (vote != id) = true := by rw [bne_iff_ne]; exact h1
    go_enter Tryz.func52, Tryz.ntmps52
    go_wp2_with fail
    go_quiet (fail)
    go_wp2_with fail
    go_ret
    exact ⟨ret_bool HF.out.symm, bel_drewN (bel_new (Below.refl _ _) _) nq⟩
  obtain rfl : id = vote := h1.symm
  by_cases h2 : 0 < votes.length
  rotate_left
  · have HF := Lib.hid (show q = false from by rw [HQ.out]; rw [decide_eq_false h2]; simp)
    have h2b : ((votes.length : Int) == 0) = true := by rw [beq_iff_eq]; omega
    have h2e : votes = [] := List.eq_nil_of_length_eq_zero (by omega)
    clear h2
    go_enter Tryz.func52, Tryz.ntmps52
    go_wp2_with fail
    go_quiet (fail)
    go_wp2_with fail
    go_ret
    exact ⟨ret_bool HF.out.symm, bel_drewN (bel_new (Below.refl _ _) _) nq⟩
  obtain ⟨vb, vo, hvA, hvl, hv0⟩ := H1.out.votes.int 0 h2
  simp only at hvA
  subst hvA
  simp only [Nat.add_zero] at hv0
  have h2b : ((votes.length : Int) == 0) = false := by rw [beq_eq_false_iff_ne]; omega
  have h2e : ¬ votes = [] := fun e => by rw [e] at h2; exact Nat.lt_irrefl _ h2
  have h2d : (0 : Int) < (votes.length : Int) := by omega
  obtain ⟨v0, hv0e⟩ : ∃ v0, v0 = votes.getD 0 0 := ⟨_, rfl⟩
  rw [show votes.getD 0 default = v0 from hv0e.symm] at hv0
  by_cases h3 : v0 = id
  rotate_left
  · have HF := Lib.hid (show q = false from by rw [HQ.out]; rw [← hv0e, decide_eq_false h3]; simp)
    have h3b : (v0 != id) = true := by rw [bne_iff_ne]; exact h3
    clear hv0e
    go_enter Tryz.func52, Tryz.ntmps52
    go_wp2_with fail
    go_quiet (fail)
    go_wp2_with fail
    go_ret
    exact ⟨ret_bool HF.out.symm, bel_drewN (bel_new (Below.refl _ _) _) nq⟩
  subst h3
  have HV0 := Lib.hid hv0e
  have HQ2 := Lib.hid (show q = (!Qm.wins conf votes && Rf.vok conf [] votes && e0) from by rw [HQ.out]; rw [← hv0e, decide_eq_true h2]; simp)
  clear hv0e h1
  cases hw : Qm.wins conf votes with
  | true =>
    rw [hw] at HWN HQ2
    have HF := Lib.hid (show q = false from HQ2.out)
    clear hw
    go_enter Tryz.func52, Tryz.ntmps52
    go_wp2_with fail
    go_quiet ((go_at_call 70; exact quiet_of_eq (HWN.out _ (Lib.hid (H1.out.conf.bel (bel_drewN (Below.refl _ _) _))) (Lib.hid (H1.out.votes.bel (bel_drewN (Below.refl _ _) _))))))
    go_wp2_with fail
    go_ret
    exact ⟨ret_bool HF.out.symm, bel_drewN HB1.out nq⟩
  | false =>
    rw [hw] at HWN HQ2
    have HF := Lib.hid (show q = (Rf.vok conf [] votes && e0) from HQ2.out)
    clear hw
    go_enter Tryz.func52, Tryz.ntmps52
    go_wp2_with fail
    go_quiet ((go_at_call 70; exact quiet_of_eq (HWN.out _ (Lib.hid (H1.out.conf.bel (bel_drewN (Below.refl _ _) _))) (Lib.hid (H1.out.votes.bel (bel_drewN (Below.refl _ _) _))))))
    have HB2 := Lib.hid (bel_drewN HB1.out nq)
    have H2 := Lib.hid (H1.out.bel (bel_drewN (Below.refl _ _) nq))
    have HZ2 := Lib.hid (HZ1.out.drewN nq)
    clear hv0
    generalize (w.alloc (.cells #[.int .i64 v0, .slice cA conf.length cc, .int .i64 term, .int .i64 v0, .int .i64 role, .int .i64 leader, .int .i64 b, .int .i64 bt, .slice eA es.length ec, .string snap, .int .i64 commit, .int .i64 left, .int .i64 wait, .slice (some ⟨vb, vo, none⟩) votes.length vc, .slice nA next.length nc, .slice mA mtch.length mc] 28)).drewN nq = w2 at *
    go_wp2_with fail
    go_loopg [3] votes.length (fun g v3 W => ∃ k : Nat, v3 = .int .i64 k ∧ Hid (k + g = votes.length ∧ Below w2.heap.size w2 W ∧ q = (Rf.vok conf (votes.take k) (votes.drop k) && e0)))
    case atStart => exact ⟨0, rfl, Lib.hid ⟨by omega, Below.refl _ _, by simpa using HF.out⟩⟩
    case round =>
      obtain ⟨k, rfl, HI⟩ := hrel
      have HBR := Lib.hid HI.out.2.1
      have H3 := Lib.hid (H2.out.bel HBR.out)
      have hz : ∀ i, wr.cell? ⟨w.heap.size, i, none⟩ = (#[.int .i64 v0, .slice cA conf.length cc, .int .i64 term, .int .i64 v0, .int .i64 role, .int .i64 leader, .int .i64 b, .int .i64 bt, .slice eA es.length ec, .string snap, .int .i64 commit, .int .i64 left, .int .i64 wait, .slice (some ⟨vb, vo, none⟩) votes.length vc, .slice nA next.length nc, .slice mA mtch.length mc] : Array Value)[i]? := (HZ2.out.bel HBR.out).cells
      by_cases hlt : k < votes.length
      · have hl : (k : Int) < (votes.length : Int) := by omega
        obtain ⟨n, rfl⟩ : ∃ n, gk = n + 1 := ⟨gk - 1, by have := HI.out.1; omega⟩
        have hk1 : (k : Int) + 1 ≤ 9223372036854775807 := by omega
        obtain ⟨b2, o2, e2, _, hvk⟩ := H3.out.votes.int k hlt
        simp only at e2
        injection e2 with e2
        injection e2 with e3 e4 e5
        subst e3; subst e4
        clear e5
        have hst := vok_step (conf := conf) hlt
        obtain ⟨c, hc⟩ : ∃ c, c = votes.getD k 0 := ⟨_, rfl⟩
        rw [show votes.getD k default = c from hc.symm] at hvk
        rw [← hc] at hst
        have HST := Lib.hid (HI.out.2.2.trans (by rw [hst] : _ = _))
        have HK1 := Lib.hid HI.out.1
        have hkc : (k : Int) ≤ (vc : Int) := by omega
        have hk0 : (0 : Int) ≤ (k : Int) := by omega
        have HCV2 := Lib.hid (fun n => quiet_of_eq (HCV.out (wr.drewN n) c k (by omega) (Lib.hid (H3.out.votes.bel (bel_drewN (Below.refl _ _) _)))))
        rw [show (votes.take k).length = k from by rw [List.length_take]; omega] at HCV2
        have HC1 := Lib.hid (fun n => quiet_of_eq (HCC.out (wr.drewN n) c (Lib.hid (H3.out.conf.bel (bel_drewN (Below.refl _ _) _)))))
        clear hst hc HI
        by_cases hm : c ∈ conf
        · by_cases hs : c ∈ votes.take k
          · have hf : q = false := by rw [HST.out, decide_eq_true hm, decide_eq_true hs]; rfl
            have HFF := Lib.hid hf
            rw [decide_eq_true hm] at HC1
            rw [decide_eq_true hs] at HCV2
            clear hm hs hf
            go_wp2_with fail
            go_quiet ((go_at_call 49; first | with_reducible exact HC1.out _ | with_reducible exact HCV2.out _))
            go_wp2_with fail
            go_ret
            exact ⟨ret_bool HFF.out.symm, bel_tr HB2.out (bel_drewN HBR.out _)⟩
          · have hf : q = (Rf.vok conf (votes.take (k + 1)) (votes.drop (k + 1)) && e0) := by rw [HST.out, decide_eq_true hm, decide_eq_false hs]; rfl
            have HFF := Lib.hid hf
            rw [decide_eq_true hm] at HC1
            rw [decide_eq_false hs] at HCV2
            clear hm hs hf
            go_wp2_with fail
            go_quiet ((go_at_call 49; first | with_reducible exact HC1.out _ | with_reducible exact HCV2.out _))
            go_wp2_with fail
            go_roundg n
            case rel => exact ⟨k + 1, by go_num, Lib.hid ⟨by have := HK1.out; omega, bel_drewN HBR.out _, HFF.out⟩⟩
            case measure => omega
        · have hf : q = false := by rw [HST.out, decide_eq_false hm]; rfl
          have HFF := Lib.hid hf
          rw [decide_eq_false hm] at HC1
          clear hm hf
          go_wp2_with fail
          go_quiet ((go_at_call 49; exact HC1.out _))
          go_wp2_with fail
          go_ret
          exact ⟨ret_bool HFF.out.symm, bel_tr HB2.out (bel_drewN HBR.out _)⟩
      · have hl : ¬ (k : Int) < (votes.length : Int) := by omega
        have hf : q = e0 := by rw [HI.out.2.2, List.drop_eq_nil_of_le (by omega)]; rfl
        have HFF := Lib.hid hf
        clear hf hlt
        by_cases hn : next.length = 0
        · have hnb : ((next.length : Int) == 0) = true := by rw [beq_iff_eq]; omega
          have hne : next = [] := List.eq_nil_of_length_eq_zero hn
          by_cases hmm : mtch.length = 0
          · have hmb : ((mtch.length : Int) == 0) = true := by rw [beq_iff_eq]; omega
            have hme : mtch = [] := List.eq_nil_of_length_eq_zero hmm
            have HG := Lib.hid (show q = true from by rw [HFF.out, HE0.out]; simp [hn, hmm])
            clear hn hmm
            go_wp2_with fail
            go_ret
            exact ⟨ret_bool HG.out.symm, bel_tr HB2.out HBR.out⟩
          · have hmb : ((mtch.length : Int) == 0) = false := by rw [beq_eq_false_iff_ne]; omega
            have hme : ¬ mtch = [] := fun e => hmm (by rw [e]; rfl)
            have HG := Lib.hid (show q = false from by rw [HFF.out, HE0.out]; simp [hme])
            clear hn hmm
            go_wp2_with fail
            go_ret
            exact ⟨ret_bool HG.out.symm, bel_tr HB2.out HBR.out⟩
        · have hnb : ((next.length : Int) == 0) = false := by rw [beq_eq_false_iff_ne]; omega
          have hne : ¬ next = [] := fun e => hn (by rw [e]; rfl)
          have HG := Lib.hid (show q = false from by rw [HFF.out, HE0.out]; simp [hne])
          clear hn
          go_wp2_with fail
          go_ret
          exact ⟨ret_bool HG.out.symm, bel_tr HB2.out HBR.out⟩
end Go.Proofs.YtdladjgdhnkkcaaGreat

/-
  Contract of the reference of layer 14: whether a leader's numbers are right.
  Conditions: the node can be read.
-/
namespace Go.Proofs.YtdladjgdhnkkcaaGreat
open Go.RowKit
set_option linter.unusedVariables false
set_option linter.unusedSimpArgs false
set_option maxHeartbeats 4000000

/-- a leader's numbers, and no votes -/
def Rf.ldr (r : Nod) : Bool := decide (r.votes.length = 0) && Rf.known r
set_option maxRecDepth 20000 in
theorem leader_calls (r : Nod) (x : NdX) (w : World) (h : Hid (RdR w r x)) :
    Calls Tryz.prog 53 #[raftV r x] w fun e w' => e = .returned (.bool (Rf.ldr r)) ∧ Below w.heap.size w w' := by
  obtain ⟨q, hq⟩ : ∃ q, q = Rf.ldr r := ⟨_, rfl⟩
  rw [← hq]
  have HQ := Lib.hid hq
  unfold Rf.ldr Rf.known Rf.lens at HQ
  clear hq
  obtain ⟨id, conf, term, vote, role, leader, b, bt, es, snap, commit, left, wait, votes, next, mtch⟩ := r
  obtain ⟨cA, cc, eA, ec, vA, vc, nA, nc, mA, mc, oA, oc⟩ := x
  have HB1 := Lib.hid (bel_new (Below.refl w.heap.size w) (.cells #[.int .i64 id, .slice cA conf.length cc, .int .i64 term, .int .i64 vote, .int .i64 role, .int .i64 leader, .int .i64 b, .int .i64 bt, .slice eA es.length ec, .string snap, .int .i64 commit, .int .i64 left, .int .i64 wait, .slice vA votes.length vc, .slice nA next.length nc, .slice mA mtch.length mc] 28))
  have HZ1 := Lib.hid (Blk.new w 28 #[.int .i64 id, .slice cA conf.length cc, .int .i64 term, .int .i64 vote, .int .i64 role, .int .i64 leader, .int .i64 b, .int .i64 bt, .slice eA es.length ec, .string snap, .int .i64 commit, .int .i64 left, .int .i64 wait, .slice vA votes.length vc, .slice nA next.length nc, .slice mA mtch.length mc])
  have H1 := Lib.hid (h.out.bel HB1.out)
  have el2 := h.out.es2
  have nl2 := h.out.next2
  have ml2 := h.out.mtch2
  have cl2 := h.out.conf2
  simp only at el2 nl2 ml2 cl2
  by_cases hl : vote = id ∧ leader = id ∧ votes.length = 0 ∧ next.length = conf.length ∧ mtch.length = conf.length
  rotate_left
  · have HF := Lib.hid (show q = false from by
      rw [HQ.out]
      by_cases hv : votes.length = 0
      · have hl2 : ¬ (vote = id ∧ leader = id ∧ next.length = conf.length ∧ mtch.length = conf.length) := fun h => hl ⟨h.1, h.2.1, hv, h.2.2.1, h.2.2.2⟩
        simp only
        rw [decide_eq_false hl2]
        simp
      · simp only
        rw [decide_eq_false hv]
        rfl)
    have HN := Lib.hid hl
    clear hl
    go_enter Tryz.func53, Tryz.ntmps53
    go_wp2_with fail
    all_goals first
      | (exfalso; apply HN.out; refine ⟨?_, ?_, ?_, ?_, ?_⟩ <;> first | (simp_all; done) | (simp_all; omega) | omega)
      | (go_ret
         exact ⟨ret_bool HF.out.symm, bel_new (Below.refl _ _) _⟩)
  obtain ⟨l1, l2, l5, l3, l4⟩ := hl
  obtain ⟨lN, hlN⟩ : ∃ lN, lN = Tr.lastN b bt es := ⟨_, rfl⟩
  obtain ⟨lT, hlT⟩ : ∃ lT, lT = Tr.lastT b bt es := ⟨_, rfl⟩
  have hlb : 0 ≤ lN ∧ lN ≤ 1099511627776 := by
    rw [hlN]
    by_cases hc : Tr.chk b bt es = true
    · have := Tr.chk_rim hc
      rw [Rf.lastN_eq hc]; omega
    · unfold Tr.lastN; rw [if_neg hc]; omega
  have HF0 := Lib.hid (show q = Rf.kn lN mtch next from by rw [HQ.out, hlN]; simp [l1, l2, l3, l4, l5])
  have HL2 := Lib.hid (fun W (hR : RdE W eA es) => rlast2_calls b bt eA ec es W hR (by omega))
  rw [← hlN, ← hlT] at HL2
  have l1b : (vote != id) = false := by rw [l1]; simp
  have l2b : (leader != id) = false := by rw [l2]; simp
  have l5b : ¬ (0 : Int) < (votes.length : Int) := by omega
  have l5c : ¬ 0 < votes.length := by omega
  have l3b : ((next.length : Int) != (conf.length : Int)) = false := by rw [l3]; simp
  have l4b : ((mtch.length : Int) != (conf.length : Int)) = false := by rw [l4]; simp
  have L34 := Lib.hid (And.intro l3 l4)
  clear l1 l2 l3 l4 l5 hlN hlT
  go_enter Tryz.func53, Tryz.ntmps53
  go_wp2_with fail
  refine (HL2.out _ H1.out.es).mono ?_
  rintro e w2 ⟨rfl, hb2⟩
  have HB2 := Lib.hid (bel_tr HB1.out hb2)
  have H2 := Lib.hid (H1.out.bel hb2)
  have HZ2 := Lib.hid (HZ1.out.bel hb2)
  clear hb2 HL2
  go_wp2_with fail
  go_loopg [5] conf.length (fun g v5 W => ∃ k : Nat, v5 = .int .i64 k ∧ Hid (k + g = conf.length ∧ Below w2.heap.size w2 W ∧ q = Rf.kn lN (mtch.drop k) (next.drop k)))
  case atStart => exact ⟨0, rfl, Lib.hid ⟨by omega, Below.refl _ _, by simpa using HF0.out⟩⟩
  case round =>
    obtain ⟨k, rfl, HI⟩ := hrel
    have HBR := Lib.hid HI.out.2.1
    have HBW := Lib.hid (bel_tr HB2.out HI.out.2.1)
    have H3 := Lib.hid (H2.out.bel HBR.out)
    have hz : ∀ i, wr.cell? ⟨w.heap.size, i, none⟩ = (#[.int .i64 id, .slice cA conf.length cc, .int .i64 term, .int .i64 vote, .int .i64 role, .int .i64 leader, .int .i64 b, .int .i64 bt, .slice eA es.length ec, .string snap, .int .i64 commit, .int .i64 left, .int .i64 wait, .slice vA votes.length vc, .slice nA next.length nc, .slice mA mtch.length mc] : Array Value)[i]? := (HZ2.out.bel HBR.out).cells
    by_cases hlt : k < conf.length
    · have hl : (k : Int) < (conf.length : Int) := by omega
      have hk1 : k < mtch.length := by have := L34.out; omega
      have hk2 : k < next.length := by have := L34.out; omega
      have hl1 : (k : Int) < (mtch.length : Int) := by omega
      have hl2 : (k : Int) < (next.length : Int) := by omega
      have hl3 : (k : Int) + 1 ≤ 9223372036854775807 := by omega
      obtain ⟨n, rfl⟩ : ∃ n, gk = n + 1 := ⟨gk - 1, by have := HI.out.1; omega⟩
      obtain ⟨b1, o1, e1, _, hmk⟩ := H3.out.mtch.int k hk1
      obtain ⟨b2, o2, e2, _, hnk⟩ := H3.out.next.int k hk2
      simp only at e1 e2
      subst e1; subst e2
      have hst := kn_step (last := lN) hk1 hk2
      obtain ⟨mx, hmx⟩ : ∃ mx, mx = mtch.getD k 0 := ⟨_, rfl⟩
      obtain ⟨nx, hnx⟩ : ∃ nx, nx = next.getD k 0 := ⟨_, rfl⟩
      rw [show mtch.getD k default = mx from hmx.symm] at hmk
      rw [show next.getD k default = nx from hnx.symm] at hnk
      rw [← hmx, ← hnx] at hst
      have HST := Lib.hid (HI.out.2.2.trans hst)
      have HK1 := Lib.hid HI.out.1
      have hw1 : IntKind.i64.wrap (lN + 1) = lN + 1 := IntWalk.i64_in _ (by omega)
      clear hst hmx hnx HI
      by_cases hok : 0 ≤ mx ∧ mx ≤ lN ∧ mx < nx ∧ nx ≤ lN + 1
      · have hf : q = Rf.kn lN (mtch.drop (k + 1)) (next.drop (k + 1)) := by rw [HST.out, decide_eq_true hok, Bool.true_and]
        have HFF := Lib.hid hf
        obtain ⟨p1, p2, p3, p4⟩ := hok
        have p1' : ¬ mx < 0 := by omega
        have p2' : ¬ lN < mx := by omega
        have p3' : ¬ nx ≤ mx := by omega
        have p4' : ¬ lN + 1 < nx := by omega
        have d1 : decide (mx < 0) = false := decide_eq_false p1'
        have d2 : decide (lN < mx) = false := decide_eq_false p2'
        have d3 : decide (nx ≤ mx) = false := decide_eq_false p3'
        have d4 : decide (lN + 1 < nx) = false := decide_eq_false p4'
        clear hf
        go_wp2_with fail
        go_quiet (fail)
        go_wp2_with fail
        go_roundg n
        case rel => exact ⟨k + 1, by go_num, Lib.hid ⟨by have := HK1.out; omega, bel_drewN HBR.out _, HFF.out⟩⟩
        case measure => omega
      · have hf : q = false := by rw [HST.out, decide_eq_false hok, Bool.false_and]
        have HFF := Lib.hid hf
        clear hf
        by_cases p1 : mx < 0
        · have d1 : decide (mx < 0) = true := decide_eq_true p1
          clear hok
          go_wp2_with fail
          go_quiet (fail)
          go_wp2_with fail
          go_ret
          exact ⟨ret_bool HFF.out.symm, bel_drewN HBW.out _⟩
        have d1 : decide (mx < 0) = false := decide_eq_false p1
        by_cases p2 : lN < mx
        · have d2 : decide (lN < mx) = true := decide_eq_true p2
          clear hok
          go_wp2_with fail
          go_quiet (fail)
          go_wp2_with fail
          go_ret
          exact ⟨ret_bool HFF.out.symm, bel_drewN HBW.out _⟩
        have d2 : decide (lN < mx) = false := decide_eq_false p2
        by_cases p3 : nx ≤ mx
        · have d3 : decide (nx ≤ mx) = true := decide_eq_true p3
          clear hok
          go_wp2_with fail
          go_quiet (fail)
          go_wp2_with fail
          go_ret
          exact ⟨ret_bool HFF.out.symm, bel_drewN HBW.out _⟩
        have d3 : decide (nx ≤ mx) = false := decide_eq_false p3
        have p4 : lN + 1 < nx := by omega
        have d4 : decide (lN + 1 < nx) = true := decide_eq_true p4
        clear hok
        go_wp2_with fail
        go_quiet (fail)
        go_wp2_with fail
        go_ret
        exact ⟨ret_bool HFF.out.symm, bel_drewN HBW.out _⟩
    · have hl : ¬ (k : Int) < (conf.length : Int) := by omega
      have hf : q = true := by rw [HI.out.2.2, List.drop_eq_nil_of_le (by have := L34.out; omega), List.drop_eq_nil_of_le (by have := L34.out; omega)]; rfl
      have HFF := Lib.hid hf
      clear hf hlt
      go_wp2_with fail
      go_ret
      exact ⟨ret_bool HFF.out.symm, HBW.out⟩
end Go.Proofs.YtdladjgdhnkkcaaGreat
