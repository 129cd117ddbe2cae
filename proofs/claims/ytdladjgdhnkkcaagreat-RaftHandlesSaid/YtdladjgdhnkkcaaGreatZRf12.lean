
/-
  Contract: a voice comes.
  Conditions: the node lies in memory and is right.
-/
import Derived.Test.YtdladjgdhnkkcaaGreatZRf7ToRf8
import Derived.BigQuiet
namespace Go.Proofs.YtdladjgdhnkkcaaGreat
open Go.RowKit
set_option linter.unusedVariables false
set_option linter.unusedSimpArgs false
set_option maxHeartbeats 4000000

/-- a vote is appended -/
theorem Nd.votes_put {t : TypeId} {base g : Nat} {col : Nat → Nat} {r : Nod} {x : NdX} {L : List MsgV} {w w' : World} (h : Nd t base g col r x L w) {A : Option Addr} {c : Nat} {vs : List Int} (ho : OwnL (layI .i64) 3 w' base (.slice A vs.length c) vs) (hg : w.grownBy w' (Value.slice x.vA r.votes.length x.vc).ownBlock)
    (h3 : (Value.slice A vs.length c).ownBlock = (Value.slice x.vA r.votes.length x.vc).ownBlock ∨ (Value.slice A vs.length c).ownBlock = some w.heap.size) :
    Blk w' g t (nodeC r x L.length) ∧ Below base w w' ∧ ∀ W, W = w'.setCell ⟨g, 13, none⟩ (.slice A vs.length c) → Nd t base g (Go.Proofs.YtdladjgdhnkkcaaGreat.recol col w.heap.size 2) { r with votes := vs } { x with vA := A, vc := c } L W := by
  have hgl := h.blk.lt
  have hb : Blk w' g t (nodeC r x L.length) := (hg.block g hgl (fun e => by have := h.rest.votesc g e.symm; rw [h.gc] at this; cases this)).trans h.blk
  have hcg : Go.Proofs.YtdladjgdhnkkcaaGreat.recol col w.heap.size 2 g = 1 := by rw [recol_old hgl]; exact h.gc
  refine ⟨hb, h.rest.votes.grown (Below.refl _ _) h.rest.bs hg, fun W hW => ?_⟩
  subst hW
  exact ⟨h.ge, hcg, hb.set 13 _, (h.rest.votes_put ho hg h3).set1 hcg _⟩
theorem Nd.votes_rd {t : TypeId} {base g : Nat} {col : Nat → Nat} {r : Nod} {x : NdX} {L : List MsgV} {w : World} (h : Nd t base g col r x L w) : RdI w x.vA r.votes := h.rest.votes.rd.2.1
theorem Nd.conf_rd {t : TypeId} {base g : Nat} {col : Nat → Nat} {r : Nod} {x : NdX} {L : List MsgV} {w : World} (h : Nd t base g col r x L w) : RdI w x.cA r.conf ∧ r.conf.length ≤ x.cc ∧ x.cc ≤ 9223372036854775807 := ⟨h.rest.conf.rd.2.1, h.rest.conf.rd.2.2.1, by have := h.rest.conf.rd.2.2.2; unfold maxLen at this; exact this⟩

set_option maxRecDepth 20000 in
theorem grant_calls {base g : Nat} {col : Nat → Nat} {r : Nod} {x : NdX} {L : List MsgV} {w : World} (H : Hid (Nd 53 base g col r x L w)) (hL : L.length ≤ 800) (hB : Hid (Rf.Base r)) (hvl : r.votes.length ≤ 7) (m : Msg) (A : Option Addr) (cap : Nat) :
    Calls Tryz.prog 21 #[.pointer (some ⟨g, 0, none⟩), msgV m A cap] w (Led 53 base g (Rf.grant r m).1 x L (Rf.grant r m).2 w) := by
  obtain ⟨q, hq⟩ : ∃ q, q = Rf.grant r m := ⟨_, rfl⟩
  rw [← hq]
  have HQ := Lib.hid hq
  unfold Rf.grant at HQ
  have hca := Qm.chk_asc hB.out.conf
  have hn7 : r.conf.length ≤ 7 := hca.2.2
  clear hq hca
  obtain ⟨id, conf, term, vote, role, leader, b, bt, es, snap, commit, left, wait, votes, next, mtch⟩ := r
  obtain ⟨mk, ms, md, mt, mi, ml, mc, my, me, mdt⟩ := m
  simp only at hvl hn7
  have hC := H.out.blk.cells
  dsimp only [nodeC] at hC
  have hgl := H.out.blk.lt
  have HB1 := Lib.hid (bel_new (Below.refl w.heap.size w) (.cells #[.int .i64 mk, .int .i64 ms, .int .i64 md, .int .i64 mt, .int .i64 mi, .int .i64 ml, .int .i64 mc, .bool my, .slice A me.length cap, .string mdt] 30))
  have N1 := Lib.hid (H.out.bel HB1.out)
  have hm1 := (Blk.new w 30 #[.int .i64 mk, .int .i64 ms, .int .i64 md, .int .i64 mt, .int .i64 mi, .int .i64 ml, .int .i64 mc, .bool my, .slice A me.length cap, .string mdt])
  have HM1 := Lib.hid hm1
  have hno : ∀ W n, q = (⟨id, conf, term, vote, role, leader, b, bt, es, snap, commit, left, wait, votes, next, mtch⟩, []) → W = (w.alloc (.cells #[.int .i64 mk, .int .i64 ms, .int .i64 md, .int .i64 mt, .int .i64 mi, .int .i64 ml, .int .i64 mc, .bool my, .slice A me.length cap, .string mdt] 30)).drewN n → Led 53 base g q.1 x L q.2 w (.returned (.tuple #[])) W := fun W n hqe hW => by
    subst hW
    rw [hqe]
    exact ⟨rfl, ⟨col, x, [], rfl, rfl, rfl, by rw [List.append_nil]; exact N1.out.bel (bel_drewN (Below.refl _ _) n)⟩, bel_base (bel_drewN HB1.out n) H.out.rest.bs⟩
  have HNO := Lib.hid hno
  have HCT := Lib.hid (fun W (hR : Hid (RdI W x.vA votes)) => contains_calls x.vA x.vc votes ms W hR (by omega))
  clear hm1 hno
  by_cases h1 : role = 1
  · have h1b : (role != 1) = false := by rw [h1]; rfl
    cases my with
    | false =>
      have HF := Lib.hid (show q = _ from by rw [HQ.out, if_neg (by simp)])
      clear h1
      go_enter Tryz.func21, Tryz.ntmps21
      go_wp2_with fail
      go_quiet (fail)
      go_wp2_with fail
      go_end0
      exact HNO.out _ nq HF.out rfl
    | true =>
      by_cases hv : ms ∈ votes
      · have HF := Lib.hid (show q = _ from by rw [HQ.out, if_neg (fun h => h.2.2 hv)])
        rw [decide_eq_true hv] at HCT
        clear h1 hv
        go_enter Tryz.func21, Tryz.ntmps21
        go_wp2_with fail
        go_quiet ((go_at_call 42; exact quiet_of_eq (HCT.out _ (Lib.hid (N1.out.votes_rd.bel (bel_drewN (Below.refl _ _) _))))))
        go_wp2_with fail
        go_end0
        exact HNO.out _ nq HF.out rfl
      · rw [decide_eq_false hv] at HCT
        obtain ⟨vs, hvs⟩ : ∃ vs, vs = votes ++ [ms] := ⟨_, rfl⟩
        have HF := Lib.hid (show q = if Qm.wins conf vs = true then (Rf.lead ⟨id, conf, term, vote, role, leader, b, bt, es, snap, commit, left, wait, vs, next, mtch⟩, Rf.pushAll (Rf.lead ⟨id, conf, term, vote, role, leader, b, bt, es, snap, commit, left, wait, vs, next, mtch⟩)) else (⟨id, conf, term, vote, role, leader, b, bt, es, snap, commit, left, wait, vs, next, mtch⟩, []) from by rw [HQ.out, if_pos ⟨h1, rfl, hv⟩, hvs])
        have HVS := Lib.hid hvs
        have hvsl : vs.length ≤ 8 := by rw [hvs, List.length_append]; simp; omega
        have hBv : Hid (Rf.Base ⟨id, conf, term, vote, role, leader, b, bt, es, snap, commit, left, wait, vs, next, mtch⟩) := Lib.hid { hB.out with }
        clear h1 hv hvs
        go_enter Tryz.func21, Tryz.ntmps21
        go_wp2_with fail
        go_quiet ((go_at_call 42; exact quiet_of_eq (HCT.out _ (Lib.hid (N1.out.votes_rd.bel (bel_drewN (Below.refl _ _) _))))))
        have HB2 := Lib.hid (bel_drewN HB1.out nq)
        have N2 := Lib.hid (N1.out.bel (bel_drewN (Below.refl _ _) nq))
        have m2 := (HM1.out.drewN nq).cells
        generalize ((w.alloc (.cells #[.int .i64 mk, .int .i64 ms, .int .i64 md, .int .i64 mt, .int .i64 mi, .int .i64 ml, .int .i64 mc, .bool true, .slice A me.length cap, .string mdt] 30)).drewN nq) = W2 at *
        have hC2 : ∀ i, W2.cell? ⟨g, i, none⟩ = (nodeC ⟨id, conf, term, vote, role, leader, b, bt, es, snap, commit, left, wait, votes, next, mtch⟩ x L.length)[i]? := N2.out.blk.cells
        dsimp only [nodeC] at hC2
        have hg2 := N2.out.blk.lt
        clear hC hgl HM1
        go_wp2_with fail
        have HRD := Lib.hid (rdL_lit (L := layI .i64) W2.drew 3 [ms] (by simp [maxLen]) #[.int .i64 ms] rfl)
        have HBW := Lib.hid (bel_new (bel_drew (Below.refl W2.heap.size W2)) (.cells #[.int .i64 ms] 3))
        have N3 := Lib.hid (N2.out.bel HBW.out)
        go_region_law (first
          | (refine step_appAt 22 _ 8 Tryz.underlying22 infoI rfl rfl (.tmp 30) (.tmp 33) rfl base _ votes rfl N3.out.rest.votes ⟨W2.heap.size, 0, none⟩ 1 1 [ms] rfl rfl HRD.out (by simp [maxLen]; omega) (by simp; omega) N3.out.rest.bs ?_
             intro v1 w1 ho1 hg1 h31
             rw [← HVS.out] at ho1
             obtain ⟨A1, cp1, rfl, _, _, _, _⟩ := ho1.form
             have HP := Lib.hid (N3.out.votes_put ho1 hg1 h31)
             have c2 : ∀ i, w1.cell? ⟨g, i, none⟩ = (nodeC ⟨id, conf, term, vote, role, leader, b, bt, es, snap, commit, left, wait, votes, next, mtch⟩ x L.length)[i]? := HP.out.1.cells
             dsimp only [nodeC] at c2
             have f2 : ∀ i, w1.frozen? ⟨g, i, none⟩ = false := HP.out.1.free
             clear ho1 hg1 h31))
        all_goals
          have N4 := Lib.hid (HP.out.2.2 _ rfl)
          have HB4 := Lib.hid (((bel_base HB2.out H.out.rest.bs).trans ((bel_base HBW.out N2.out.rest.bs).trans HP.out.2.1)).setCell (p := ⟨g, 13, none⟩) H.out.ge (.slice A1 vs.length cp1))
          have HWN := Lib.hid (fun W (hR : Hid (RdI W x.cA conf)) (hS : Hid (RdI W A1 vs)) => wins_calls x.cA A1 x.cc cp1 conf vs W hR H.out.conf_rd.2.1 H.out.conf_rd.2.2 hS (by omega))
          have cells4 : ∀ i, (w1.setCell ⟨g, 13, none⟩ (.slice A1 vs.length cp1)).cell? ⟨g, i, none⟩ = (nodeC ⟨id, conf, term, vote, role, leader, b, bt, es, snap, commit, left, wait, vs, next, mtch⟩ { x with vA := A1, vc := cp1 } L.length)[i]? := N4.out.blk.cells
          dsimp only [nodeC] at cells4
          clear hC2 hg2 c2 f2 m2 HP
          go_wp2_with fail
          generalize w1.setCell ⟨g, 13, none⟩ (.slice A1 vs.length cp1) = W4 at *
          by_cases hw : Qm.wins conf vs = true
          · rw [hw] at HWN
            have HF2 := Lib.hid (HF.out.trans (if_pos hw))
            clear hw
            go_quiet ((go_at_call 58; exact quiet_of_eq (HWN.out _ (Lib.hid (N4.out.conf_rd.1.bel (bel_drewN (Below.refl _ _) _))) (Lib.hid (N4.out.votes_rd.bel (bel_drewN (Below.refl _ _) _))))))
            go_wp2_with fail
            refine (lead_calls (Lib.hid (N4.out.bel (bel_drewN (Below.refl W4.heap.size W4) nq))) (by omega) hBv).mono ?_
            rintro e w6 ⟨rfl, ⟨col6, x6, LV, hx1, hx2, hLV, hN6⟩, hb6⟩
            have HX1 := Lib.hid hx1
            have HX2 := Lib.hid hx2
            have HLV := Lib.hid hLV
            have N6 := Lib.hid hN6
            have HB6 := Lib.hid hb6
            clear hx1 hx2 hLV hN6 hb6
            go_wp2_with fail
            go_end0
            rw [HF2.out]
            exact ⟨rfl, ⟨col6, x6, LV, HX1.out, HX2.out, HLV.out, N6.out⟩, (HB4.out.trans (bel_base (bel_drewN (Below.refl _ _) nq) N4.out.rest.bs)).trans HB6.out⟩
          · have hw' : Qm.wins conf vs = false := by simpa using hw
            rw [hw'] at HWN
            have HF2 := Lib.hid (HF.out.trans (if_neg hw))
            clear hw hw'
            go_quiet ((go_at_call 58; exact quiet_of_eq (HWN.out _ (Lib.hid (N4.out.conf_rd.1.bel (bel_drewN (Below.refl _ _) _))) (Lib.hid (N4.out.votes_rd.bel (bel_drewN (Below.refl _ _) _))))))
            go_wp2_with fail
            go_end0
            rw [HF2.out]
            exact ⟨rfl, ⟨_, { x with vA := A1, vc := cp1 }, [], rfl, rfl, rfl, by rw [List.append_nil]; exact N4.out.bel (bel_drewN (Below.refl W4.heap.size W4) nq)⟩, HB4.out.trans (bel_base (bel_drewN (Below.refl _ _) nq) N4.out.rest.bs)⟩
  · have h1b : (role != 1) = true := by rw [bne_iff_ne]; exact h1
    have HF := Lib.hid (show q = _ from by rw [HQ.out, if_neg (fun h => h1 h.1)])
    clear h1
    go_enter Tryz.func21, Tryz.ntmps21
    go_wp2_with fail
    go_quiet (fail)
    go_wp2_with fail
    go_end0
    exact HNO.out _ nq HF.out rfl
end Go.Proofs.YtdladjgdhnkkcaaGreat
