
/-
  2 texts in one.
  Conditions: stated lemma by lemma.
-/
import Derived.Test.YtdladjgdhnkkcaaGreatZRf8
import Derived.BigQuiet
/-
  Contract: a voice comes.
  Conditions: the node lies in memory and is right.
-/
namespace Go.Proofs.YtdladjgdhnkkcaaGreat
open Go.RowKit
set_option linter.unusedVariables false
set_option linter.unusedSimpArgs false
set_option maxHeartbeats 4000000

/-- a vote is appended -/
theorem Nd.votes_put {t : TypeId} {base g : Nat} {col : Nat → Nat} {r : Nod} {x : NdX} {L : List MsgV} {w w' : World} (h : Nd t base g col r x L w) {A : Option Addr} {c : Nat} {vs : List Int} (ho : OwnL (layI .i64) 3 w' base (.slice A vs.length c) vs) (hg : w.grownBy w' (Value.slice x.vA r.votes.length x.vc).ownBlock)
    (h3 : (Value.slice A vs.length c).ownBlock = (Value.slice x.vA r.votes.length x.vc).ownBlock ∨ (Value.slice A vs.length c).ownBlock = some w.heap.size) :
    Blk w' g t (nodeC r x L.length) ∧ Below base w w' ∧ ∀ W, W = w'.setCell ⟨g, 13, none⟩ (.slice A vs.length c) → Nd t base g (Go.Proofs.YtdladjgdhnkkcaaGreat.recol col w.heap.size 2) { r with votes := vs } { x with vA := A, vc := c } L W := by
  have hgl := h.blk.lt
  have hb : Blk w' g t (nodeC r x L.length) := (hg.block g hgl (fun e => by have := h.rest.votesc g e.symm; rw [h.gc] at this; cases this)).trans h.blk
  have hcg : Go.Proofs.YtdladjgdhnkkcaaGreat.recol col w.heap.size 2 g = 1 := by rw [recol_old hgl]; exact h.gc
  refine ⟨hb, h.rest.votes.grown (Below.refl _ _) h.rest.bs hg, fun W hW => ?_⟩
  subst hW
  exact ⟨h.ge, hcg, hb.set 13 _, (h.rest.votes_put ho hg h3).set1 hcg _⟩
theorem Nd.votes_rd {t : TypeId} {base g : Nat} {col : Nat → Nat} {r : Nod} {x : NdX} {L : List MsgV} {w : World} (h : Nd t base g col r x L w) : RdI w x.vA r.votes := h.rest.votes.rd.2.1
theorem Nd.conf_rd {t : TypeId} {base g : Nat} {col : Nat → Nat} {r : Nod} {x : NdX} {L : List MsgV} {w : World} (h : Nd t base g col r x L w) : RdI w x.cA r.conf ∧ r.conf.length ≤ x.cc ∧ x.cc ≤ 9223372036854775807 := ⟨h.rest.conf.rd.2.1, h.rest.conf.rd.2.2.1, by have := h.rest.conf.rd.2.2.2; unfold maxLen at this; exact this⟩

set_option maxRecDepth 20000 in
theorem grant_calls {base g : Nat} {col : Nat → Nat} {r : Nod} {x : NdX} {L : List MsgV} {w : World} (H : Hid (Nd 53 base g col r x L w)) (hL : L.length ≤ 800) (hB : Hid (Rf.Base r)) (hvl : r.votes.length ≤ 7) (m : Msg) (A : Option Addr) (cap : Nat) :
    Calls Tryz.prog 21 #[.pointer (some ⟨g, 0, none⟩), msgV m A cap] w (Led 53 base g (Rf.grant r m).1 x L (Rf.grant r m).2 w) := by
  obtain ⟨q, hq⟩ : ∃ q, q = Rf.grant r m := ⟨_, rfl⟩
  rw [← hq]
  have HQ := Lib.hid hq
  unfold Rf.grant at HQ
  have hca := Qm.chk_asc hB.out.conf
  have hn7 : r.conf.length ≤ 7 := hca.2.2
  clear hq hca
  obtain ⟨id, conf, term, vote, role, leader, b, bt, es, snap, commit, left, wait, votes, next, mtch⟩ := r
  obtain ⟨mk, ms, md, mt, mi, ml, mc, my, me, mdt⟩ := m
  simp only at hvl hn7
  have hC := H.out.blk.cells
  dsimp only [nodeC] at hC
  have hgl := H.out.blk.lt
  have HB1 := Lib.hid (bel_new (Below.refl w.heap.size w) (.cells #[.int .i64 mk, .int .i64 ms, .int .i64 md, .int .i64 mt, .int .i64 mi, .int .i64 ml, .int .i64 mc, .bool my, .slice A me.length cap, .string mdt] 30))
  have N1 := Lib.hid (H.out.bel HB1.out)
  have hm1 := (Blk.new w 30 #[.int .i64 mk, .int .i64 ms, .int .i64 md, .int .i64 mt, .int .i64 mi, .int .i64 ml, .int .i64 mc, .bool my, .slice A me.length cap, .string mdt])
  have HM1 := Lib.hid hm1
  have hno : ∀ W n, q = (⟨id, conf, term, vote, role, leader, b, bt, es, snap, commit, left, wait, votes, next, mtch⟩, []) → W = (w.alloc (.cells #[.int .i64 mk, .int .i64 ms, .int .i64 md, .int .i64 mt, .int .i64 mi, .int .i64 ml, .int .i64 mc, .bool my, .slice A me.length cap, .string mdt] 30)).drewN n → Led 53 base g q.1 x L q.2 w (.returned (.tuple #[])) W := fun W n hqe hW => by
    subst hW
    rw [hqe]
    exact ⟨rfl, ⟨col, x, [], rfl, rfl, rfl, by rw [List.append_nil]; exact N1.out.bel (bel_drewN (Below.refl _ _) n)⟩, bel_base (bel_drewN HB1.out n) H.out.rest.bs⟩
  have HNO := Lib.hid hno
  have HCT := Lib.hid (fun W (hR : Hid (RdI W x.vA votes)) => contains_calls x.vA x.vc votes ms W hR (by omega))
  clear hm1 hno
  by_cases h1 : role = 1
  · have h1b : (role != 1) = false := by rw [h1]; rfl
    cases my with
    | false =>
      have HF := Lib.hid (show q = _ from by rw [HQ.out, if_neg (by simp)])
      clear h1
      go_enter Tryz.func21, Tryz.ntmps21
      go_wp2_with fail
      go_quiet (fail)
      go_wp2_with fail
      go_end0
      exact HNO.out _ nq HF.out rfl
    | true =>
      by_cases hv : ms ∈ votes
      · have HF := Lib.hid (show q = _ from by rw [HQ.out, if_neg (fun h => h.2.2 hv)])
        rw [decide_eq_true hv] at HCT
        clear h1 hv
        go_enter Tryz.func21, Tryz.ntmps21
        go_wp2_with fail
        go_quiet ((go_at_call 42; exact quiet_of_eq (HCT.out _ (Lib.hid (N1.out.votes_rd.bel (bel_drewN (Below.refl _ _) _))))))
        go_wp2_with fail
        go_end0
        exact HNO.out _ nq HF.out rfl
      · rw [decide_eq_false hv] at HCT
        obtain ⟨vs, hvs⟩ : ∃ vs, vs = votes ++ [ms] := ⟨_, rfl⟩
        have HF := Lib.hid (show q = if Qm.wins conf vs = true then (Rf.lead ⟨id, conf, term, vote, role, leader, b, bt, es, snap, commit, left, wait, vs, next, mtch⟩, Rf.pushAll (Rf.lead ⟨id, conf, term, vote, role, leader, b, bt, es, snap, commit, left, wait, vs, next, mtch⟩)) else (⟨id, conf, term, vote, role, leader, b, bt, es, snap, commit, left, wait, vs, next, mtch⟩, []) from by rw [HQ.out, if_pos ⟨h1, rfl, hv⟩, hvs])
        have HVS := Lib.hid hvs
        have hvsl : vs.length ≤ 8 := by rw [hvs, List.length_append]; simp; omega
        have hBv : Hid (Rf.Base ⟨id, conf, term, vote, role, leader, b, bt, es, snap, commit, left, wait, vs, next, mtch⟩) := Lib.hid { hB.out with }
        clear h1 hv hvs
        go_enter Tryz.func21, Tryz.ntmps21
        go_wp2_with fail
        go_quiet ((go_at_call 42; exact quiet_of_eq (HCT.out _ (Lib.hid (N1.out.votes_rd.bel (bel_drewN (Below.refl _ _) _))))))
        have HB2 := Lib.hid (bel_drewN HB1.out nq)
        have N2 := Lib.hid (N1.out.bel (bel_drewN (Below.refl _ _) nq))
        have m2 := (HM1.out.drewN nq).cells
        generalize ((w.alloc (.cells #[.int .i64 mk, .int .i64 ms, .int .i64 md, .int .i64 mt, .int .i64 mi, .int .i64 ml, .int .i64 mc, .bool true, .slice A me.length cap, .string mdt] 30)).drewN nq) = W2 at *
        have hC2 : ∀ i, W2.cell? ⟨g, i, none⟩ = (nodeC ⟨id, conf, term, vote, role, leader, b, bt, es, snap, commit, left, wait, votes, next, mtch⟩ x L.length)[i]? := N2.out.blk.cells
        dsimp only [nodeC] at hC2
        have hg2 := N2.out.blk.lt
        clear hC hgl HM1
        go_wp2_with fail
        have HRD := Lib.hid (rdL_lit (L := layI .i64) W2.drew 3 [ms] (by simp [maxLen]) #[.int .i64 ms] rfl)
        have HBW := Lib.hid (bel_new (bel_drew (Below.refl W2.heap.size W2)) (.cells #[.int .i64 ms] 3))
        have N3 := Lib.hid (N2.out.bel HBW.out)
        go_region_law (first
          | (refine step_appAt 22 _ 8 Tryz.underlying22 infoI rfl rfl (.tmp 30) (.tmp 33) rfl base _ votes rfl N3.out.rest.votes ⟨W2.heap.size, 0, none⟩ 1 1 [ms] rfl rfl HRD.out (by simp [maxLen]; omega) (by simp; omega) N3.out.rest.bs ?_
             intro v1 w1 ho1 hg1 h31
             rw [← HVS.out] at ho1
             obtain ⟨A1, cp1, rfl, _, _, _, _⟩ := ho1.form
             have HP := Lib.hid (N3.out.votes_put ho1 hg1 h31)
             have c2 : ∀ i, w1.cell? ⟨g, i, none⟩ = (nodeC ⟨id, conf, term, vote, role, leader, b, bt, es, snap, commit, left, wait, votes, next, mtch⟩ x L.length)[i]? := HP.out.1.cells
             dsimp only [nodeC] at c2
             have f2 : ∀ i, w1.frozen? ⟨g, i, none⟩ = false := HP.out.1.free
             clear ho1 hg1 h31))
        all_goals
          have N4 := Lib.hid (HP.out.2.2 _ rfl)
          have HB4 := Lib.hid (((bel_base HB2.out H.out.rest.bs).trans ((bel_base HBW.out N2.out.rest.bs).trans HP.out.2.1)).setCell (p := ⟨g, 13, none⟩) H.out.ge (.slice A1 vs.length cp1))
          have HWN := Lib.hid (fun W (hR : Hid (RdI W x.cA conf)) (hS : Hid (RdI W A1 vs)) => wins_calls x.cA A1 x.cc cp1 conf vs W hR H.out.conf_rd.2.1 H.out.conf_rd.2.2 hS (by omega))
          have cells4 : ∀ i, (w1.setCell ⟨g, 13, none⟩ (.slice A1 vs.length cp1)).cell? ⟨g, i, none⟩ = (nodeC ⟨id, conf, term, vote, role, leader, b, bt, es, snap, commit, left, wait, vs, next, mtch⟩ { x with vA := A1, vc := cp1 } L.length)[i]? := N4.out.blk.cells
          dsimp only [nodeC] at cells4
          clear hC2 hg2 c2 f2 m2 HP
          go_wp2_with fail
          generalize w1.setCell ⟨g, 13, none⟩ (.slice A1 vs.length cp1) = W4 at *
          by_cases hw : Qm.wins conf vs = true
          · rw [hw] at HWN
            have HF2 := Lib.hid (HF.out.trans (if_pos hw))
            clear hw
            go_quiet ((go_at_call 58; exact quiet_of_eq (HWN.out _ (Lib.hid (N4.out.conf_rd.1.bel (bel_drewN (Below.refl _ _) _))) (Lib.hid (N4.out.votes_rd.bel (bel_drewN (Below.refl _ _) _))))))
            go_wp2_with fail
            refine (lead_calls (Lib.hid (N4.out.bel (bel_drewN (Below.refl W4.heap.size W4) nq))) (by omega) hBv).mono ?_
            rintro e w6 ⟨rfl, ⟨col6, x6, LV, hx1, hx2, hLV, hN6⟩, hb6⟩
            have HX1 := Lib.hid hx1
            have HX2 := Lib.hid hx2
            have HLV := Lib.hid hLV
            have N6 := Lib.hid hN6
            have HB6 := Lib.hid hb6
            clear hx1 hx2 hLV hN6 hb6
            go_wp2_with fail
            go_end0
            rw [HF2.out]
            exact ⟨rfl, ⟨col6, x6, LV, HX1.out, HX2.out, HLV.out, N6.out⟩, (HB4.out.trans (bel_base (bel_drewN (Below.refl _ _) nq) N4.out.rest.bs)).trans HB6.out⟩
          · have hw' : Qm.wins conf vs = false := by simpa using hw
            rw [hw'] at HWN
            have HF2 := Lib.hid (HF.out.trans (if_neg hw))
            clear hw hw'
            go_quiet ((go_at_call 58; exact quiet_of_eq (HWN.out _ (Lib.hid (N4.out.conf_rd.1.bel (bel_drewN (Below.refl _ _) _))) (Lib.hid (N4.out.votes_rd.bel (bel_drewN (Below.refl _ _) _))))))
            go_wp2_with fail
            go_end0
            rw [HF2.out]
            exact ⟨rfl, ⟨_, { x with vA := A1, vc := cp1 }, [], rfl, rfl, rfl, by rw [List.append_nil]; exact N4.out.bel (bel_drewN (Below.refl W4.heap.size W4) nq)⟩, HB4.out.trans (bel_base (bel_drewN (Below.refl _ _) nq) N4.out.rest.bs)⟩
  · have h1b : (role != 1) = true := by rw [bne_iff_ne]; exact h1
    have HF := Lib.hid (show q = _ from by rw [HQ.out, if_neg (fun h => h1 h.1)])
    clear h1
    go_enter Tryz.func21, Tryz.ntmps21
    go_wp2_with fail
    go_quiet (fail)
    go_wp2_with fail
    go_end0
    exact HNO.out _ nq HF.out rfl
end Go.Proofs.YtdladjgdhnkkcaaGreat

/-
  Contracts: whether a candidate's votes, a leader's numbers, a node are right.
  Conditions: the node can be read.
-/
namespace Go.Proofs.YtdladjgdhnkkcaaGreat
open Go.RowKit
set_option linter.unusedVariables false
set_option linter.unusedSimpArgs false
set_option maxHeartbeats 20000000

/-- a node that can be read -/
structure RdR (w : World) (r : Nod) (x : NdX) : Prop where
  conf : RdI w x.cA r.conf
  confl : r.conf.length ≤ x.cc
  confc : x.cc ≤ 9223372036854775807
  conf2 : r.conf.length ≤ 20000000000000
  es : RdE w x.eA r.es
  esl : r.es.length ≤ x.ec
  es2 : r.es.length ≤ 6000000000000
  votes : RdI w x.vA r.votes
  votesl : r.votes.length ≤ x.vc
  votes2 : r.votes.length ≤ 20000000000000
  next : RdL (layI .i64) w x.nA r.next
  nextl : r.next.length ≤ x.nc
  next2 : r.next.length ≤ 20000000000000
  mtch : RdL (layI .i64) w x.mA r.mtch
  mtchl : r.mtch.length ≤ x.mc
  mtch2 : r.mtch.length ≤ 20000000000000
theorem RdR.bel {w w' : World} {r : Nod} {x : NdX} (h : RdR w r x) (hb : Below w.heap.size w w') : RdR w' r x :=
  { h with conf := h.conf.bel hb, es := h.es.bel hb, votes := h.votes.bel hb, next := h.next.bel hb, mtch := h.mtch.bel hb }
theorem vok_step {conf votes : List Int} {k : Nat} (h : k < votes.length) : Rf.vok conf (votes.take k) (votes.drop k) = (decide (votes.getD k 0 ∈ conf) && !decide (votes.getD k 0 ∈ votes.take k) && Rf.vok conf (votes.take (k + 1)) (votes.drop (k + 1))) := by
  rw [Qm.drop_at votes k h]
  show _ = (_ && _ && Rf.vok conf (votes.take (k + 1)) _)
  rw [List.take_succ_eq_append_getElem h]
  have e : votes.getD k 0 = votes[k] := by simp [List.getD, h]
  have e2 : votes.getD k default = votes[k] := by simp [List.getD, h]
  rw [e, e2]
  rfl

theorem clos14_calls (n : Int) (bx : Nat) (r : Nod) (x : NdX) (w : World) (hb : Hid (Blk w bx 28 (nodeC r x 0).pop)) (h : Hid (RdR w r x)) :
    Calls Tryz.prog 41 #[.int .i64 n, .pointer (some ⟨bx, 0, none⟩)] w fun e w' => e = .returned (.bool (Rf.isIn r.conf n)) ∧ w = w' := by
  have hc : w.cell? ⟨bx, 1, none⟩ = some (.slice x.cA r.conf.length x.cc) := hb.out.cells 1
  have HCT := Lib.hid (fun W (hR : Hid (RdI W x.cA r.conf)) => contains_calls x.cA x.cc r.conf n W hR (by have := h.out.conf2; omega))
  unfold Rf.isIn
  by_cases h0 : n = 0
  · subst h0
    go_enter Tryz.func41, Tryz.ntmps41
    go_wp2_with fail
    go_ret
    exact ⟨by simp, rfl⟩
  · have h0b : (n == 0) = false := by rw [beq_eq_false_iff_ne]; exact h0
    have HD : Hid (decide (n = 0 ∨ n ∈ r.conf) = decide (n ∈ r.conf)) := Lib.hid (by simp [h0])
    rw [HD.out]
    go_enter Tryz.func41, Tryz.ntmps41
    go_wp2_with fail
    refine (HCT.out w (Lib.hid h.out.conf)).mono ?_
    rintro e w' ⟨rfl, rfl⟩
    go_wp2_with fail
    go_ret
    exact ⟨by simp, rfl⟩

set_option maxRecDepth 20000 in
theorem voted_calls (r : Nod) (x : NdX) (w : World) (h : Hid (RdR w r x)) :
    Calls Tryz.prog 46 #[raftV r x] w fun e w' => e = .returned (.bool (Rf.voted r)) ∧ Below w.heap.size w w' := by
  obtain ⟨q, hq⟩ : ∃ q, q = Rf.voted r := ⟨_, rfl⟩
  rw [← hq]
  have HQ := Lib.hid hq
  unfold Rf.voted at HQ
  clear hq
  obtain ⟨id, conf, term, vote, role, leader, b, bt, es, snap, commit, left, wait, votes, next, mtch⟩ := r
  obtain ⟨cA, cc, eA, ec, vA, vc, nA, nc, mA, mc, oA, oc⟩ := x
  have HB1 := Lib.hid (bel_new (Below.refl w.heap.size w) (.cells #[.int .i64 id, .slice cA conf.length cc, .int .i64 term, .int .i64 vote, .int .i64 role, .int .i64 leader, .int .i64 b, .int .i64 bt, .slice eA es.length ec, .string snap, .int .i64 commit, .int .i64 left, .int .i64 wait, .slice vA votes.length vc, .slice nA next.length nc, .slice mA mtch.length mc] 28))
  have HZ1 := Lib.hid (Blk.new w 28 #[.int .i64 id, .slice cA conf.length cc, .int .i64 term, .int .i64 vote, .int .i64 role, .int .i64 leader, .int .i64 b, .int .i64 bt, .slice eA es.length ec, .string snap, .int .i64 commit, .int .i64 left, .int .i64 wait, .slice vA votes.length vc, .slice nA next.length nc, .slice mA mtch.length mc])
  have H1 := Lib.hid (h.out.bel HB1.out)
  have vl := h.out.votesl
  have vl2 := h.out.votes2
  have HWN := Lib.hid (fun W (hR : Hid (RdI W cA conf)) (hS : Hid (RdI W vA votes)) => wins_calls cA vA cc vc conf votes W hR h.out.confl h.out.confc hS (by simp only at vl2; omega))
  have HCC := Lib.hid (fun W (v : Int) (hR : Hid (RdI W cA conf)) => contains_calls cA cc conf v W hR (by have := h.out.conf2; simp only at this; omega))
  have HCV := Lib.hid (fun W (v : Int) (k : Nat) (hk : k ≤ votes.length) (hR : Hid (RdI W vA votes)) => contains_calls vA vc (votes.take k) v W (Lib.hid (hR.out.take k)) (by rw [List.length_take]; simp only at vl2; omega))
  simp only at vl vl2
  by_cases h1 : vote = id
  rotate_left
  · have HF := Lib.hid (show q = false from by rw [HQ.out]; simp [h1])
    have h1b : (vote != id) = true := by rw [bne_iff_ne]; exact h1
    go_enter Tryz.func46, Tryz.ntmps46
    go_wp2_with fail
    go_quiet (fail)
    go_wp2_with fail
    go_ret
    exact ⟨ret_bool HF.out.symm, bel_drewN HB1.out nq⟩
  obtain rfl : id = vote := h1.symm
  by_cases h2 : 0 < votes.length
  rotate_left
  · have HF := Lib.hid (show q = false from by rw [HQ.out]; simp only; rw [decide_eq_false h2]; simp)
    have h2b : decide ((votes.length : Int) < 1) = true := decide_eq_true (by omega)
    have h2c : (votes.length : Int) < 1 := by omega
    go_enter Tryz.func46, Tryz.ntmps46
    go_wp2_with fail
    go_quiet (fail)
    go_wp2_with fail
    go_ret
    exact ⟨ret_bool HF.out.symm, bel_drewN HB1.out nq⟩
  obtain ⟨vb, vo, hvA, hvl, hv0⟩ := H1.out.votes.int 0 h2
  simp only at hvA
  subst hvA
  simp only [Nat.add_zero] at hv0
  have h2b : decide ((votes.length : Int) < 1) = false := decide_eq_false (by omega)
  have h2c : ¬ (votes.length : Int) < 1 := by omega
  have h2d : (0 : Int) < (votes.length : Int) := by omega
  obtain ⟨v0, hv0e⟩ : ∃ v0, v0 = votes.getD 0 0 := ⟨_, rfl⟩
  rw [show votes.getD 0 default = v0 from hv0e.symm] at hv0
  by_cases h3 : v0 = id
  rotate_left
  · have HF := Lib.hid (show q = false from by rw [HQ.out]; simp only; rw [← hv0e, decide_eq_false h3]; simp)
    have h3b : (v0 != id) = true := by rw [bne_iff_ne]; exact h3
    clear hv0e
    go_enter Tryz.func46, Tryz.ntmps46
    go_wp2_with fail
    go_quiet (fail)
    go_wp2_with fail
    go_ret
    exact ⟨ret_bool HF.out.symm, bel_drewN HB1.out nq⟩
  subst h3
  have HV0 := Lib.hid hv0e
  have HQ2 := Lib.hid (show q = (!Qm.wins conf votes && Rf.vok conf [] votes) from by rw [HQ.out]; simp only; rw [← hv0e, decide_eq_true h2]; simp)
  clear hv0e h1
  cases hw : Qm.wins conf votes with
  | true =>
    rw [hw] at HWN HQ2
    have HF := Lib.hid (show q = false from HQ2.out)
    clear hw
    go_enter Tryz.func46, Tryz.ntmps46
    go_wp2_with fail
    go_quiet ((go_at_call 58; exact quiet_of_eq (HWN.out _ (Lib.hid (H1.out.conf.bel (bel_drewN (Below.refl _ _) _))) (Lib.hid (H1.out.votes.bel (bel_drewN (Below.refl _ _) _))))))
    go_wp2_with fail
    go_ret
    exact ⟨ret_bool HF.out.symm, bel_drewN HB1.out nq⟩
  | false =>
    rw [hw] at HWN HQ2
    have HF := Lib.hid (show q = Rf.vok conf [] votes from HQ2.out)
    clear hw
    go_enter Tryz.func46, Tryz.ntmps46
    go_wp2_with fail
    go_quiet ((go_at_call 58; exact quiet_of_eq (HWN.out _ (Lib.hid (H1.out.conf.bel (bel_drewN (Below.refl _ _) _))) (Lib.hid (H1.out.votes.bel (bel_drewN (Below.refl _ _) _))))))
    have HB2 := Lib.hid (bel_drewN HB1.out nq)
    have H2 := Lib.hid (H1.out.bel (bel_drewN (Below.refl _ _) nq))
    have hz := (HZ1.out.drewN nq).cells
    clear hv0
    generalize (w.alloc (.cells #[.int .i64 v0, .slice cA conf.length cc, .int .i64 term, .int .i64 v0, .int .i64 role, .int .i64 leader, .int .i64 b, .int .i64 bt, .slice eA es.length ec, .string snap, .int .i64 commit, .int .i64 left, .int .i64 wait, .slice (some ⟨vb, vo, none⟩) votes.length vc, .slice nA next.length nc, .slice mA mtch.length mc] 28)).drewN nq = w2 at *
    go_wp2_with fail
    go_loopg [3, 4, 35] votes.length (fun g v3 v4 v35 W => W = w2 ∧ ∃ k : Nat, v35 = .int .i64 k ∧ Hid (k + g = votes.length ∧ q = Rf.vok conf (votes.take k) (votes.drop k)))
    case atStart => exact ⟨rfl, 0, rfl, Lib.hid ⟨by omega, by simpa using HF.out⟩⟩
    case round =>
      obtain ⟨rfl, k, rfl, HI⟩ := hrel
      by_cases hlt : k < votes.length
      · have hl : (k : Int) < (votes.length : Int) := by omega
        have hg : 0 < gk := by have := HI.out.1; omega
        obtain ⟨b2, o2, e2, _, hvk⟩ := H2.out.votes.int k hlt
        simp only at e2
        injection e2 with e2
        injection e2 with e3 e4 _
        subst e3; subst e4
        have hst := vok_step (conf := conf) hlt
        obtain ⟨c, hc⟩ : ∃ c, c = votes.getD k 0 := ⟨_, rfl⟩
        rw [show votes.getD k default = c from hc.symm] at hvk
        rw [← hc] at hst
        have HST := Lib.hid (HI.out.2.trans hst)
        have HK1 := Lib.hid HI.out.1
        have hkc : (k : Int) ≤ (vc : Int) := by omega
        have hk0 : (0 : Int) ≤ (k : Int) := by omega
        have HCV2 := Lib.hid (HCV.out wr c k (by omega) (Lib.hid H2.out.votes))
        rw [show (votes.take k).length = k from by rw [List.length_take]; omega] at HCV2
        clear hst hc HI
        by_cases hm : c ∈ conf
        · by_cases hs : c ∈ votes.take k
          · have hf : q = false := by rw [HST.out, decide_eq_true hm, decide_eq_true hs]; rfl
            have HFF := Lib.hid hf
            have HC1 := Lib.hid (HCC.out wr c (Lib.hid H2.out.conf))
            rw [decide_eq_true hm] at HC1
            rw [decide_eq_true hs] at HCV2
            clear hm hs hf
            go_wp2_with fail
            refine HC1.out.mono ?_
            rintro e w' ⟨rfl, rfl⟩
            go_wp2_with fail
            refine HCV2.out.mono ?_
            rintro e w' ⟨rfl, rfl⟩
            go_wp2_with fail
            go_ret
            exact ⟨ret_bool HFF.out.symm, HB2.out⟩
          · have hf : q = Rf.vok conf (votes.take (k + 1)) (votes.drop (k + 1)) := by rw [HST.out, decide_eq_true hm, decide_eq_false hs]; rfl
            have HFF := Lib.hid hf
            have HC1 := Lib.hid (HCC.out wr c (Lib.hid H2.out.conf))
            rw [decide_eq_true hm] at HC1
            rw [decide_eq_false hs] at HCV2
            clear hm hs hf
            go_wp2_with fail
            refine HC1.out.mono ?_
            rintro e w' ⟨rfl, rfl⟩
            go_wp2_with fail
            refine HCV2.out.mono ?_
            rintro e w' ⟨rfl, rfl⟩
            go_wp2_with fail
            go_roundg (gk - 1)
            case rel => exact ⟨rfl, k + 1, by go_num, Lib.hid ⟨by have := HK1.out; omega, HFF.out⟩⟩
            case measure => omega
        · have hf : q = false := by rw [HST.out, decide_eq_false hm]; rfl
          have HFF := Lib.hid hf
          have HC1 := Lib.hid (HCC.out wr c (Lib.hid H2.out.conf))
          rw [decide_eq_false hm] at HC1
          clear hm hf
          go_wp2_with fail
          refine HC1.out.mono ?_
          rintro e w' ⟨rfl, rfl⟩
          go_wp2_with fail
          go_ret
          exact ⟨ret_bool HFF.out.symm, HB2.out⟩
      · have hl : ¬ (k : Int) < (votes.length : Int) := by omega
        have hf : q = true := by rw [HI.out.2, List.drop_eq_nil_of_le (by omega)]; rfl
        have HFF := Lib.hid hf
        clear hf hlt
        go_wp2_with fail
        go_ret
        exact ⟨ret_bool HFF.out.symm, HB2.out⟩
end Go.Proofs.YtdladjgdhnkkcaaGreat
