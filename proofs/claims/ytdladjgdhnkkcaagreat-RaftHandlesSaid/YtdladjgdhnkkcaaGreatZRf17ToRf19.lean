
/-
  2 texts in one.
  Conditions: stated lemma by lemma.
-/
import Derived.Test.YtdladjgdhnkkcaaGreatZRf12
import Derived.BigQuiet
/-
  Contracts: whether a candidate's votes, a leader's numbers, a node are right.
  Conditions: the node can be read.
-/
namespace Go.Proofs.YtdladjgdhnkkcaaGreat
open Go.RowKit
set_option linter.unusedVariables false
set_option linter.unusedSimpArgs false
set_option maxHeartbeats 20000000

/-- a node that can be read -/
structure RdR (w : World) (r : Nod) (x : NdX) : Prop where
  conf : RdI w x.cA r.conf
  confl : r.conf.length ≤ x.cc
  confc : x.cc ≤ 9223372036854775807
  conf2 : r.conf.length ≤ 20000000000000
  es : RdE w x.eA r.es
  esl : r.es.length ≤ x.ec
  es2 : r.es.length ≤ 6000000000000
  votes : RdI w x.vA r.votes
  votesl : r.votes.length ≤ x.vc
  votes2 : r.votes.length ≤ 20000000000000
  next : RdL (layI .i64) w x.nA r.next
  nextl : r.next.length ≤ x.nc
  next2 : r.next.length ≤ 20000000000000
  mtch : RdL (layI .i64) w x.mA r.mtch
  mtchl : r.mtch.length ≤ x.mc
  mtch2 : r.mtch.length ≤ 20000000000000
theorem RdR.bel {w w' : World} {r : Nod} {x : NdX} (h : RdR w r x) (hb : Below w.heap.size w w') : RdR w' r x :=
  { h with conf := h.conf.bel hb, es := h.es.bel hb, votes := h.votes.bel hb, next := h.next.bel hb, mtch := h.mtch.bel hb }
theorem vok_step {conf votes : List Int} {k : Nat} (h : k < votes.length) : Rf.vok conf (votes.take k) (votes.drop k) = (decide (votes.getD k 0 ∈ conf) && !decide (votes.getD k 0 ∈ votes.take k) && Rf.vok conf (votes.take (k + 1)) (votes.drop (k + 1))) := by
  rw [Qm.drop_at votes k h]
  show _ = (_ && _ && Rf.vok conf (votes.take (k + 1)) _)
  rw [List.take_succ_eq_append_getElem h]
  have e : votes.getD k 0 = votes[k] := by simp [List.getD, h]
  have e2 : votes.getD k default = votes[k] := by simp [List.getD, h]
  rw [e, e2]
  rfl

theorem clos14_calls (n : Int) (bx : Nat) (r : Nod) (x : NdX) (w : World) (hb : Hid (Blk w bx 28 (nodeC r x 0).pop)) (h : Hid (RdR w r x)) :
    Calls Tryz.prog 41 #[.int .i64 n, .pointer (some ⟨bx, 0, none⟩)] w fun e w' => e = .returned (.bool (Rf.isIn r.conf n)) ∧ w = w' := by
  have hc : w.cell? ⟨bx, 1, none⟩ = some (.slice x.cA r.conf.length x.cc) := hb.out.cells 1
  have HCT := Lib.hid (fun W (hR : Hid (RdI W x.cA r.conf)) => contains_calls x.cA x.cc r.conf n W hR (by have := h.out.conf2; omega))
  unfold Rf.isIn
  by_cases h0 : n = 0
  · subst h0
    go_enter Tryz.func41, Tryz.ntmps41
    go_wp2_with fail
    go_ret
    exact ⟨by simp, rfl⟩
  · have h0b : (n == 0) = false := by rw [beq_eq_false_iff_ne]; exact h0
    have HD : Hid (decide (n = 0 ∨ n ∈ r.conf) = decide (n ∈ r.conf)) := Lib.hid (by simp [h0])
    rw [HD.out]
    go_enter Tryz.func41, Tryz.ntmps41
    go_wp2_with fail
    refine (HCT.out w (Lib.hid h.out.conf)).mono ?_
    rintro e w' ⟨rfl, rfl⟩
    go_wp2_with fail
    go_ret
    exact ⟨by simp, rfl⟩

set_option maxRecDepth 20000 in
theorem voted_calls (r : Nod) (x : NdX) (w : World) (h : Hid (RdR w r x)) :
    Calls Tryz.prog 46 #[raftV r x] w fun e w' => e = .returned (.bool (Rf.voted r)) ∧ Below w.heap.size w w' := by
  obtain ⟨q, hq⟩ : ∃ q, q = Rf.voted r := ⟨_, rfl⟩
  rw [← hq]
  have HQ := Lib.hid hq
  unfold Rf.voted at HQ
  clear hq
  obtain ⟨id, conf, term, vote, role, leader, b, bt, es, snap, commit, left, wait, votes, next, mtch⟩ := r
  obtain ⟨cA, cc, eA, ec, vA, vc, nA, nc, mA, mc, oA, oc⟩ := x
  have HB1 := Lib.hid (bel_new (Below.refl w.heap.size w) (.cells #[.int .i64 id, .slice cA conf.length cc, .int .i64 term, .int .i64 vote, .int .i64 role, .int .i64 leader, .int .i64 b, .int .i64 bt, .slice eA es.length ec, .string snap, .int .i64 commit, .int .i64 left, .int .i64 wait, .slice vA votes.length vc, .slice nA next.length nc, .slice mA mtch.length mc] 28))
  have HZ1 := Lib.hid (Blk.new w 28 #[.int .i64 id, .slice cA conf.length cc, .int .i64 term, .int .i64 vote, .int .i64 role, .int .i64 leader, .int .i64 b, .int .i64 bt, .slice eA es.length ec, .string snap, .int .i64 commit, .int .i64 left, .int .i64 wait, .slice vA votes.length vc, .slice nA next.length nc, .slice mA mtch.length mc])
  have H1 := Lib.hid (h.out.bel HB1.out)
  have vl := h.out.votesl
  have vl2 := h.out.votes2
  have HWN := Lib.hid (fun W (hR : Hid (RdI W cA conf)) (hS : Hid (RdI W vA votes)) => wins_calls cA vA cc vc conf votes W hR h.out.confl h.out.confc hS (by simp only at vl2; omega))
  have HCC := Lib.hid (fun W (v : Int) (hR : Hid (RdI W cA conf)) => contains_calls cA cc conf v W hR (by have := h.out.conf2; simp only at this; omega))
  have HCV := Lib.hid (fun W (v : Int) (k : Nat) (hk : k ≤ votes.length) (hR : Hid (RdI W vA votes)) => contains_calls vA vc (votes.take k) v W (Lib.hid (hR.out.take k)) (by rw [List.length_take]; simp only at vl2; omega))
  simp only at vl vl2
  by_cases h1 : vote = id
  rotate_left
  · have HF := Lib.hid (show q = false from by rw [HQ.out]; simp [h1])
    have h1b : (vote != id) = true := by rw [bne_iff_ne]; exact h1
    go_enter Tryz.func46, Tryz.ntmps46
    go_wp2_with fail
    go_quiet (fail)
    go_wp2_with fail
    go_ret
    exact ⟨ret_bool HF.out.symm, bel_drewN HB1.out nq⟩
  obtain rfl : id = vote := h1.symm
  by_cases h2 : 0 < votes.length
  rotate_left
  · have HF := Lib.hid (show q = false from by rw [HQ.out]; simp only; rw [decide_eq_false h2]; simp)
    have h2b : decide ((votes.length : Int) < 1) = true := decide_eq_true (by omega)
    have h2c : (votes.length : Int) < 1 := by omega
    go_enter Tryz.func46, Tryz.ntmps46
    go_wp2_with fail
    go_quiet (fail)
    go_wp2_with fail
    go_ret
    exact ⟨ret_bool HF.out.symm, bel_drewN HB1.out nq⟩
  obtain ⟨vb, vo, hvA, hvl, hv0⟩ := H1.out.votes.int 0 h2
  simp only at hvA
  subst hvA
  simp only [Nat.add_zero] at hv0
  have h2b : decide ((votes.length : Int) < 1) = false := decide_eq_false (by omega)
  have h2c : ¬ (votes.length : Int) < 1 := by omega
  have h2d : (0 : Int) < (votes.length : Int) := by omega
  obtain ⟨v0, hv0e⟩ : ∃ v0, v0 = votes.getD 0 0 := ⟨_, rfl⟩
  rw [show votes.getD 0 default = v0 from hv0e.symm] at hv0
  by_cases h3 : v0 = id
  rotate_left
  · have HF := Lib.hid (show q = false from by rw [HQ.out]; simp only; rw [← hv0e, decide_eq_false h3]; simp)
    have h3b : (v0 != id) = true := by rw [bne_iff_ne]; exact h3
    clear hv0e
    go_enter Tryz.func46, Tryz.ntmps46
    go_wp2_with fail
    go_quiet (fail)
    go_wp2_with fail
    go_ret
    exact ⟨ret_bool HF.out.symm, bel_drewN HB1.out nq⟩
  subst h3
  have HV0 := Lib.hid hv0e
  have HQ2 := Lib.hid (show q = (!Qm.wins conf votes && Rf.vok conf [] votes) from by rw [HQ.out]; simp only; rw [← hv0e, decide_eq_true h2]; simp)
  clear hv0e h1
  cases hw : Qm.wins conf votes with
  | true =>
    rw [hw] at HWN HQ2
    have HF := Lib.hid (show q = false from HQ2.out)
    clear hw
    go_enter Tryz.func46, Tryz.ntmps46
    go_wp2_with fail
    go_quiet ((go_at_call 58; exact quiet_of_eq (HWN.out _ (Lib.hid (H1.out.conf.bel (bel_drewN (Below.refl _ _) _))) (Lib.hid (H1.out.votes.bel (bel_drewN (Below.refl _ _) _))))))
    go_wp2_with fail
    go_ret
    exact ⟨ret_bool HF.out.symm, bel_drewN HB1.out nq⟩
  | false =>
    rw [hw] at HWN HQ2
    have HF := Lib.hid (show q = Rf.vok conf [] votes from HQ2.out)
    clear hw
    go_enter Tryz.func46, Tryz.ntmps46
    go_wp2_with fail
    go_quiet ((go_at_call 58; exact quiet_of_eq (HWN.out _ (Lib.hid (H1.out.conf.bel (bel_drewN (Below.refl _ _) _))) (Lib.hid (H1.out.votes.bel (bel_drewN (Below.refl _ _) _))))))
    have HB2 := Lib.hid (bel_drewN HB1.out nq)
    have H2 := Lib.hid (H1.out.bel (bel_drewN (Below.refl _ _) nq))
    have hz := (HZ1.out.drewN nq).cells
    clear hv0
    generalize (w.alloc (.cells #[.int .i64 v0, .slice cA conf.length cc, .int .i64 term, .int .i64 v0, .int .i64 role, .int .i64 leader, .int .i64 b, .int .i64 bt, .slice eA es.length ec, .string snap, .int .i64 commit, .int .i64 left, .int .i64 wait, .slice (some ⟨vb, vo, none⟩) votes.length vc, .slice nA next.length nc, .slice mA mtch.length mc] 28)).drewN nq = w2 at *
    go_wp2_with fail
    go_loopg [3, 4, 35] votes.length (fun g v3 v4 v35 W => W = w2 ∧ ∃ k : Nat, v35 = .int .i64 k ∧ Hid (k + g = votes.length ∧ q = Rf.vok conf (votes.take k) (votes.drop k)))
    case atStart => exact ⟨rfl, 0, rfl, Lib.hid ⟨by omega, by simpa using HF.out⟩⟩
    case round =>
      obtain ⟨rfl, k, rfl, HI⟩ := hrel
      by_cases hlt : k < votes.length
      · have hl : (k : Int) < (votes.length : Int) := by omega
        have hg : 0 < gk := by have := HI.out.1; omega
        obtain ⟨b2, o2, e2, _, hvk⟩ := H2.out.votes.int k hlt
        simp only at e2
        injection e2 with e2
        injection e2 with e3 e4 _
        subst e3; subst e4
        have hst := vok_step (conf := conf) hlt
        obtain ⟨c, hc⟩ : ∃ c, c = votes.getD k 0 := ⟨_, rfl⟩
        rw [show votes.getD k default = c from hc.symm] at hvk
        rw [← hc] at hst
        have HST := Lib.hid (HI.out.2.trans hst)
        have HK1 := Lib.hid HI.out.1
        have hkc : (k : Int) ≤ (vc : Int) := by omega
        have hk0 : (0 : Int) ≤ (k : Int) := by omega
        have HCV2 := Lib.hid (HCV.out wr c k (by omega) (Lib.hid H2.out.votes))
        rw [show (votes.take k).length = k from by rw [List.length_take]; omega] at HCV2
        clear hst hc HI
        by_cases hm : c ∈ conf
        · by_cases hs : c ∈ votes.take k
          · have hf : q = false := by rw [HST.out, decide_eq_true hm, decide_eq_true hs]; rfl
            have HFF := Lib.hid hf
            have HC1 := Lib.hid (HCC.out wr c (Lib.hid H2.out.conf))
            rw [decide_eq_true hm] at HC1
            rw [decide_eq_true hs] at HCV2
            clear hm hs hf
            go_wp2_with fail
            refine HC1.out.mono ?_
            rintro e w' ⟨rfl, rfl⟩
            go_wp2_with fail
            refine HCV2.out.mono ?_
            rintro e w' ⟨rfl, rfl⟩
            go_wp2_with fail
            go_ret
            exact ⟨ret_bool HFF.out.symm, HB2.out⟩
          · have hf : q = Rf.vok conf (votes.take (k + 1)) (votes.drop (k + 1)) := by rw [HST.out, decide_eq_true hm, decide_eq_false hs]; rfl
            have HFF := Lib.hid hf
            have HC1 := Lib.hid (HCC.out wr c (Lib.hid H2.out.conf))
            rw [decide_eq_true hm] at HC1
            rw [decide_eq_false hs] at HCV2
            clear hm hs hf
            go_wp2_with fail
            refine HC1.out.mono ?_
            rintro e w' ⟨rfl, rfl⟩
            go_wp2_with fail
            refine HCV2.out.mono ?_
            rintro e w' ⟨rfl, rfl⟩
            go_wp2_with fail
            go_roundg (gk - 1)
            case rel => exact ⟨rfl, k + 1, by go_num, Lib.hid ⟨by have := HK1.out; omega, HFF.out⟩⟩
            case measure => omega
        · have hf : q = false := by rw [HST.out, decide_eq_false hm]; rfl
          have HFF := Lib.hid hf
          have HC1 := Lib.hid (HCC.out wr c (Lib.hid H2.out.conf))
          rw [decide_eq_false hm] at HC1
          clear hm hf
          go_wp2_with fail
          refine HC1.out.mono ?_
          rintro e w' ⟨rfl, rfl⟩
          go_wp2_with fail
          go_ret
          exact ⟨ret_bool HFF.out.symm, HB2.out⟩
      · have hl : ¬ (k : Int) < (votes.length : Int) := by omega
        have hf : q = true := by rw [HI.out.2, List.drop_eq_nil_of_le (by omega)]; rfl
        have HFF := Lib.hid hf
        clear hf hlt
        go_wp2_with fail
        go_ret
        exact ⟨ret_bool HFF.out.symm, HB2.out⟩
end Go.Proofs.YtdladjgdhnkkcaaGreat

/-
  Contracts: whether a leader's numbers, a node are right.
  Conditions: the node can be read.
-/
namespace Go.Proofs.YtdladjgdhnkkcaaGreat
open Go.RowKit
set_option linter.unusedVariables false
set_option linter.unusedSimpArgs false
set_option maxHeartbeats 20000000

theorem kn_step {last : Int} {ms ns : List Int} {k : Nat} (h : k < ms.length) (h2 : k < ns.length) : Rf.kn last (ms.drop k) (ns.drop k) = (decide (0 ≤ ms.getD k 0 ∧ ms.getD k 0 ≤ last ∧ ms.getD k 0 < ns.getD k 0 ∧ ns.getD k 0 ≤ last + 1) && Rf.kn last (ms.drop (k + 1)) (ns.drop (k + 1))) := by
  rw [Qm.drop_at ms k h, Qm.drop_at ns k h2]
  rfl

set_option maxRecDepth 20000 in
theorem known_calls (r : Nod) (x : NdX) (w : World) (h : Hid (RdR w r x)) :
    Calls Tryz.prog 47 #[raftV r x] w fun e w' => e = .returned (.bool (Rf.known r)) ∧ Below w.heap.size w w' := by
  obtain ⟨q, hq⟩ : ∃ q, q = Rf.known r := ⟨_, rfl⟩
  rw [← hq]
  have HQ := Lib.hid hq
  unfold Rf.known Rf.lens at HQ
  clear hq
  obtain ⟨id, conf, term, vote, role, leader, b, bt, es, snap, commit, left, wait, votes, next, mtch⟩ := r
  obtain ⟨cA, cc, eA, ec, vA, vc, nA, nc, mA, mc, oA, oc⟩ := x
  have HB1 := Lib.hid (bel_new (Below.refl w.heap.size w) (.cells #[.int .i64 id, .slice cA conf.length cc, .int .i64 term, .int .i64 vote, .int .i64 role, .int .i64 leader, .int .i64 b, .int .i64 bt, .slice eA es.length ec, .string snap, .int .i64 commit, .int .i64 left, .int .i64 wait, .slice vA votes.length vc, .slice nA next.length nc, .slice mA mtch.length mc] 28))
  have HZ1 := Lib.hid (Blk.new w 28 #[.int .i64 id, .slice cA conf.length cc, .int .i64 term, .int .i64 vote, .int .i64 role, .int .i64 leader, .int .i64 b, .int .i64 bt, .slice eA es.length ec, .string snap, .int .i64 commit, .int .i64 left, .int .i64 wait, .slice vA votes.length vc, .slice nA next.length nc, .slice mA mtch.length mc])
  have H1 := Lib.hid (h.out.bel HB1.out)
  have el2 := h.out.es2
  have nl2 := h.out.next2
  have ml2 := h.out.mtch2
  simp only at el2 nl2 ml2
  have hz := HZ1.out.cells
  by_cases hl : vote = id ∧ leader = id ∧ next.length = conf.length ∧ mtch.length = conf.length
  rotate_left
  · have HF := Lib.hid (show q = false from by rw [HQ.out]; simp only; rw [decide_eq_false hl]; rfl)
    have HN := Lib.hid hl
    clear hl
    go_enter Tryz.func47, Tryz.ntmps47
    go_wp2_with fail
    all_goals first
      | (exfalso; apply HN.out; simp_all; omega)
      | (go_ret
         exact ⟨ret_bool HF.out.symm, bel_new (Below.refl _ _) _⟩)
  obtain ⟨l1, l2, l3, l4⟩ := hl
  obtain ⟨lN, hlN⟩ : ∃ lN, lN = Tr.lastN b bt es := ⟨_, rfl⟩
  obtain ⟨lT, hlT⟩ : ∃ lT, lT = Tr.lastT b bt es := ⟨_, rfl⟩
  have hlb : 0 ≤ lN ∧ lN ≤ 1099511627776 := by
    rw [hlN]
    by_cases hc : Tr.chk b bt es = true
    · have := Tr.chk_rim hc
      rw [Rf.lastN_eq hc]; omega
    · unfold Tr.lastN; rw [if_neg hc]; omega
  have HF0 := Lib.hid (show q = Rf.kn lN mtch next from by rw [HQ.out, hlN]; simp [l1, l2, l3, l4])
  have HL2 := Lib.hid (fun W (hR : RdE W eA es) => last2_calls b bt eA ec es W hR (by omega))
  rw [← hlN, ← hlT] at HL2
  have l1b : (vote != id) = false := by rw [l1]; simp
  have l2b : (leader != id) = false := by rw [l2]; simp
  have l3b : ((next.length : Int) != (conf.length : Int)) = false := by rw [l3]; simp
  have l4b : ((mtch.length : Int) != (conf.length : Int)) = false := by rw [l4]; simp
  have L34 := Lib.hid (And.intro l3 l4)
  clear l1 l2 l3 l4 hlN hlT
  go_enter Tryz.func47, Tryz.ntmps47
  go_wp2_with fail
  refine (HL2.out _ H1.out.es).mono ?_
  rintro e w2 ⟨rfl, hb2⟩
  have HB2 := Lib.hid (bel_tr HB1.out hb2)
  have H2 := Lib.hid (H1.out.bel hb2)
  have hz2 : ∀ i, w2.cell? ⟨w.heap.size, i, none⟩ = (#[.int .i64 id, .slice cA conf.length cc, .int .i64 term, .int .i64 vote, .int .i64 role, .int .i64 leader, .int .i64 b, .int .i64 bt, .slice eA es.length ec, .string snap, .int .i64 commit, .int .i64 left, .int .i64 wait, .slice vA votes.length vc, .slice nA next.length nc, .slice mA mtch.length mc] : Array Value)[i]? := (HZ1.out.bel hb2).cells
  clear hz hb2 HL2
  go_wp2_with fail
  go_loopg [5, 6, 46] mtch.length (fun g v5 v6 v46 W => W = w2 ∧ ∃ k : Nat, v46 = .int .i64 k ∧ Hid (k + g = mtch.length ∧ q = Rf.kn lN (mtch.drop k) (next.drop k)))
  case atStart => exact ⟨rfl, 0, rfl, Lib.hid ⟨by omega, by simpa using HF0.out⟩⟩
  case round =>
    obtain ⟨rfl, k, rfl, HI⟩ := hrel
    by_cases hlt : k < mtch.length
    · have hl : (k : Int) < (mtch.length : Int) := by omega
      have hk2 : k < next.length := by have := L34.out; omega
      have hl2 : (k : Int) < (next.length : Int) := by omega
      have hg : 0 < gk := by have := HI.out.1; omega
      obtain ⟨b1, o1, e1, _, hmk⟩ := H2.out.mtch.int k hlt
      obtain ⟨b2, o2, e2, _, hnk⟩ := H2.out.next.int k hk2
      simp only at e1 e2
      subst e1; subst e2
      have hst := kn_step (last := lN) hlt hk2
      obtain ⟨mx, hmx⟩ : ∃ mx, mx = mtch.getD k 0 := ⟨_, rfl⟩
      obtain ⟨nx, hnx⟩ : ∃ nx, nx = next.getD k 0 := ⟨_, rfl⟩
      rw [show mtch.getD k default = mx from hmx.symm] at hmk
      rw [show next.getD k default = nx from hnx.symm] at hnk
      rw [← hmx, ← hnx] at hst
      have HST := Lib.hid (HI.out.2.trans hst)
      have HK1 := Lib.hid HI.out.1
      have hw1 : IntKind.i64.wrap (lN + 1) = lN + 1 := IntWalk.i64_in _ (by omega)
      clear hst hmx hnx HI
      by_cases hok : 0 ≤ mx ∧ mx ≤ lN ∧ mx < nx ∧ nx ≤ lN + 1
      · have hf : q = Rf.kn lN (mtch.drop (k + 1)) (next.drop (k + 1)) := by rw [HST.out, decide_eq_true hok, Bool.true_and]
        have HFF := Lib.hid hf
        obtain ⟨p1, p2, p3, p4⟩ := hok
        have p1' : ¬ mx < 0 := by omega
        have p2' : ¬ lN < mx := by omega
        have p3' : ¬ nx ≤ mx := by omega
        have p4' : ¬ lN + 1 < nx := by omega
        clear hf
        go_wp2_with fail
        all_goals first
          | omega
          | (go_roundg (gk - 1)
             case rel => exact ⟨rfl, k + 1, by go_num, Lib.hid ⟨by have := HK1.out; omega, HFF.out⟩⟩
             case measure => omega)
      · have hf : q = false := by rw [HST.out, decide_eq_false hok, Bool.false_and]
        have HFF := Lib.hid hf
        have HN := Lib.hid hok
        clear hf hok
        go_wp2_with fail
        all_goals first
          | (exfalso; have := HN.out; omega)
          | (go_ret
             exact ⟨ret_bool HFF.out.symm, HB2.out⟩)
    · have hl : ¬ (k : Int) < (mtch.length : Int) := by omega
      have hf : q = true := by rw [HI.out.2, List.drop_eq_nil_of_le (by omega), List.drop_eq_nil_of_le (by have := L34.out; omega)]; rfl
      have HFF := Lib.hid hf
      clear hf hlt
      go_wp2_with fail
      go_ret
      exact ⟨ret_bool HFF.out.symm, HB2.out⟩
end Go.Proofs.YtdladjgdhnkkcaaGreat
