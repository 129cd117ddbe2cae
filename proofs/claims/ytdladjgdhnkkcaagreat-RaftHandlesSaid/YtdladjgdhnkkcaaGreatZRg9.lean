
/-
  Contract of the reference of layer 14: whether a node is right.
  Conditions: the node can be read.
-/
import Derived.Test.YtdladjgdhnkkcaaGreatZRg7ToRg8
import Derived.Deep.Cut
import Derived.Deep.DeepCutAuto
namespace Go.Proofs.YtdladjgdhnkkcaaGreat
open Go.RowKit
set_option linter.unusedVariables false
set_option linter.unusedSimpArgs false
set_option maxHeartbeats 4000000

namespace Rf
/-- the last thing that is asked of a node -/
theorem chk_role {r : Nod} (hb : Base r) : chk r = if r.role = 0 then (decide (r.votes.length = 0) && decide (r.next.length = 0) && decide (r.mtch.length = 0)) else if r.role = 1 then cand r else if r.role = 2 then ldr r else false := by
  have hc := (chk_iff { r with role := 0, votes := [], next := [], mtch := [] }).2 ⟨{ hb with }, .inl ⟨rfl, rfl, rfl, rfl⟩⟩
  unfold chk at hc
  simp only [Bool.and_eq_true] at hc
  have e1 : chk1 r = true := hc.1.1.1
  have e2 : chk2 r = true := hc.1.1.2
  clear hc
  unfold chk
  rw [e1, e2]
  unfold chk3 chk4 cand ldr
  by_cases r0 : r.role = 0
  · rw [if_pos r0, if_pos r0]
    rw [r0]
    rw [Bool.eq_iff_iff]
    simp
    constructor <;> intro h <;> simp_all
  rw [if_neg r0, if_neg r0]
  by_cases r1 : r.role = 1
  · rw [if_pos r1, if_pos r1, r1]
    rw [Bool.eq_iff_iff]
    simp
    constructor
    · rintro ⟨h1, h2⟩
      exact ⟨h2, h1⟩
    · rintro ⟨h1, h2⟩
      exact ⟨h2, h1⟩
  rw [if_neg r1, if_neg r1]
  by_cases r2 : r.role = 2
  · rw [if_pos r2, if_pos r2, r2]
    rw [Bool.eq_iff_iff]
    simp
  rw [if_neg r2, if_neg r2]
  simp
end Rf
set_option maxRecDepth 20000 in
theorem rfcheck14_calls (r : Nod) (x : NdX) (w : World) (h : Hid (RdR w r x)) :
    Calls Tryz.prog 13 #[raftV r x] w fun e w' => e = .returned (.bool (Rf.chk r)) ∧ Below w.heap.size w w' := by
  obtain ⟨q, hq⟩ : ∃ q, q = Rf.chk r := ⟨_, rfl⟩
  rw [← hq]
  have HQ := Lib.hid hq
  clear hq
  obtain ⟨id, conf, term, vote, role, leader, b, bt, es, snap, commit, left, wait, votes, next, mtch⟩ := r
  obtain ⟨cA, cc, eA, ec, vA, vc, nA, nc, mA, mc, oA, oc⟩ := x
  have HNO : Hid ((Rf.Base (⟨id, conf, term, vote, role, leader, b, bt, es, snap, commit, left, wait, votes, next, mtch⟩ : Nod) → False) → q = false) := Lib.hid (fun h => by
    rw [HQ.out]
    cases hc : Rf.chk (⟨id, conf, term, vote, role, leader, b, bt, es, snap, commit, left, wait, votes, next, mtch⟩ : Nod) with
    | false => rfl
    | true => exact absurd ((Rf.chk_iff _).1 hc).1 h)
  have HBW := Lib.hid (bel_new (Below.refl w.heap.size w) (.cells #[.int .i64 id, .slice cA conf.length cc, .int .i64 term, .int .i64 vote, .int .i64 role, .int .i64 leader, .int .i64 b, .int .i64 bt, .slice eA es.length ec, .string snap, .int .i64 commit, .int .i64 left, .int .i64 wait, .slice vA votes.length vc, .slice nA next.length nc, .slice mA mtch.length mc] 28))
  have HZ1 := Lib.hid (Blk.new w 28 #[.int .i64 id, .slice cA conf.length cc, .int .i64 term, .int .i64 vote, .int .i64 role, .int .i64 leader, .int .i64 b, .int .i64 bt, .slice eA es.length ec, .string snap, .int .i64 commit, .int .i64 left, .int .i64 wait, .slice vA votes.length vc, .slice nA next.length nc, .slice mA mtch.length mc])
  have H1 := Lib.hid (h.out.bel HBW.out)
  have cl2 := h.out.conf2
  simp only at cl2
  go_enter Tryz.func13, Tryz.ntmps13
  go_upto_region 1 with (fail)
  generalize w.alloc (.cells #[.int .i64 id, .slice cA conf.length cc, .int .i64 term, .int .i64 vote, .int .i64 role, .int .i64 leader, .int .i64 b, .int .i64 bt, .slice eA es.length ec, .string snap, .int .i64 commit, .int .i64 left, .int .i64 wait, .slice vA votes.length vc, .slice nA next.length nc, .slice mA mtch.length mc] 28) = w1 at *
  have hz1 : ∀ i, w1.cell? ⟨w.heap.size, i, none⟩ = (#[.int .i64 id, .slice cA conf.length cc, .int .i64 term, .int .i64 vote, .int .i64 role, .int .i64 leader, .int .i64 b, .int .i64 bt, .slice eA es.length ec, .string snap, .int .i64 commit, .int .i64 left, .int .i64 wait, .slice vA votes.length vc, .slice nA next.length nc, .slice mA mtch.length mc] : Array Value)[i]? := HZ1.out.cells
  have K1 := Lib.hid (qrcheck_calls cA cc conf w1 (Lib.hid H1.out.conf) (by omega))
  have K2 := Lib.hid (has_calls cA cc conf id w1 (Lib.hid H1.out.conf) (by omega))
  have K5 := Lib.hid (rcheck_calls b bt eA ec es w1 H1.out.es (by have := H1.out.es2; simp only at this; omega))
  cases hc1 : Qm.chk conf with
  | false =>
    rw [hc1] at K1
    have HF := Lib.hid (HNO.out (fun hb => by have h2 : Qm.chk conf = true := hb.conf; rw [hc1] at h2; cases h2))
    clear hc1
    go_wp2_with fail
    refine K1.out.mono ?_
    rintro e w' ⟨rfl, rfl⟩
    go_wp2_with fail
    go_ret
    exact ⟨ret_bool HF.out.symm, HBW.out⟩
  | true =>
    rw [hc1] at K1
    have HC1 := Lib.hid hc1
    clear hc1
    go_wp2_with fail
    refine K1.out.mono ?_
    rintro e w' ⟨rfl, rfl⟩
    go_wp2_with fail
    by_cases hid : id ∈ conf
    rotate_left
    · rw [decide_eq_false hid] at K2
      have HF := Lib.hid (HNO.out (fun hb => hid hb.id))
      clear hid
      refine K2.out.mono ?_
      rintro e w' ⟨rfl, rfl⟩
      go_wp2_with fail
      go_ret
      exact ⟨ret_bool HF.out.symm, HBW.out⟩
    rw [decide_eq_true hid] at K2
    have HID := Lib.hid hid
    clear hid
    refine K2.out.mono ?_
    rintro e w' ⟨rfl, rfl⟩
    by_cases t0 : 0 ≤ term
    rotate_left
    · have HF := Lib.hid (HNO.out (fun hb => t0 hb.term0))
      have t0i : term < 0 := by omega
      go_wp2_with fail
      go_ret
      exact ⟨ret_bool HF.out.symm, HBW.out⟩
    have t0i : ¬ term < 0 := by omega
    have HT0 := Lib.hid t0
    by_cases t1 : term ≤ 1099511627776
    rotate_left
    · have HF := Lib.hid (HNO.out (fun hb => t1 hb.term1))
      have t1i : 1099511627776 < term := by omega
      go_wp2_with fail
      go_ret
      exact ⟨ret_bool HF.out.symm, HBW.out⟩
    have t1i : ¬ 1099511627776 < term := by omega
    have HT1 := Lib.hid t1
    go_wp2_with fail
    cases hc5 : Tr.chk b bt es with
    | false =>
      rw [hc5] at K5
      have HF := Lib.hid (HNO.out (fun hb => by have h2 : Tr.chk b bt es = true := hb.trail; rw [hc5] at h2; cases h2))
      clear hc5
      refine K5.out.mono ?_
      rintro e w2 ⟨rfl, hb2⟩
      have HB2 := Lib.hid (bel_tr HBW.out hb2)
      clear hb2
      go_wp2_with fail
      go_ret
      exact ⟨ret_bool HF.out.symm, HB2.out⟩
    | true =>
      rw [hc5] at K5
      have HTR := Lib.hid hc5
      clear hc5
      refine K5.out.mono ?_
      rintro e w2 ⟨rfl, hb2⟩
      have HBW := Lib.hid (bel_tr HBW.out hb2)
      have HZ2 := Lib.hid (HZ1.out.bel hb2)
      have H2 := Lib.hid (H1.out.bel hb2)
      have hz2 : ∀ i, w2.cell? ⟨w.heap.size, i, none⟩ = (#[.int .i64 id, .slice cA conf.length cc, .int .i64 term, .int .i64 vote, .int .i64 role, .int .i64 leader, .int .i64 b, .int .i64 bt, .slice eA es.length ec, .string snap, .int .i64 commit, .int .i64 left, .int .i64 wait, .slice vA votes.length vc, .slice nA next.length nc, .slice mA mtch.length mc] : Array Value)[i]? := HZ2.out.cells
      clear hb2 hz1 HZ1 H1 K1 K2 K5
      obtain ⟨nv, hnv⟩ : ∃ nv, nv = (!(decide (vote = 0 ∨ vote ∈ conf)) || !(decide (leader = 0 ∨ leader ∈ conf))) := ⟨_, rfl⟩
      have HNV := Lib.hid hnv
      clear hnv
      have HVC := Lib.hid (has_calls cA cc conf vote w2 (Lib.hid H2.out.conf) (by omega))
      have HLC := Lib.hid (has_calls cA cc conf leader w2 (Lib.hid H2.out.conf) (by omega))
      go_upto_region 3 with (fail)
      go_cut [56] (fun s56 W => s56 = .bool nv ∧ W = w2)
      case first =>
        by_cases v0 : vote = 0
        · have v0b : (vote != 0) = false := by rw [v0]; rfl
          have HV : Hid (vote = 0 ∨ vote ∈ conf) := Lib.hid (.inl v0)
          clear v0
          by_cases l0 : leader = 0
          · have l0b : (leader != 0) = false := by rw [l0]; rfl
            have HL : Hid (leader = 0 ∨ leader ∈ conf) := Lib.hid (.inl l0)
            clear l0
            go_wp2_with fail
            go_meet
            exact ⟨by rw [HNV.out, decide_eq_true HV.out, decide_eq_true HL.out]; rfl, rfl⟩
          · have l0b : (leader != 0) = true := by rw [bne_iff_ne]; exact l0
            by_cases lin : leader ∈ conf
            · have HL : Hid (leader = 0 ∨ leader ∈ conf) := Lib.hid (.inr lin)
              rw [decide_eq_true lin] at HLC
              clear lin l0
              go_wp2_with fail
              refine HLC.out.mono ?_
              rintro e w'' ⟨rfl, rfl⟩
              go_wp2_with fail
              go_meet
              exact ⟨by rw [HNV.out, decide_eq_true HV.out, decide_eq_true HL.out]; rfl, rfl⟩
            · have HL : Hid (¬ (leader = 0 ∨ leader ∈ conf)) := Lib.hid (fun h => h.elim l0 lin)
              rw [decide_eq_false lin] at HLC
              clear lin l0
              go_wp2_with fail
              refine HLC.out.mono ?_
              rintro e w'' ⟨rfl, rfl⟩
              go_wp2_with fail
              go_meet
              exact ⟨by rw [HNV.out, decide_eq_true HV.out, decide_eq_false HL.out]; rfl, rfl⟩
        · have v0b : (vote != 0) = true := by rw [bne_iff_ne]; exact v0
          by_cases vin : vote ∈ conf
          · have HV : Hid (vote = 0 ∨ vote ∈ conf) := Lib.hid (.inr vin)
            rw [decide_eq_true vin] at HVC
            clear vin v0
            go_wp2_with fail
            refine HVC.out.mono ?_
            rintro e w' ⟨rfl, rfl⟩
            by_cases l0 : leader = 0
            · have l0b : (leader != 0) = false := by rw [l0]; rfl
              have HL : Hid (leader = 0 ∨ leader ∈ conf) := Lib.hid (.inl l0)
              clear l0
              go_wp2_with fail
              go_meet
              exact ⟨by rw [HNV.out, decide_eq_true HV.out, decide_eq_true HL.out]; rfl, rfl⟩
            · have l0b : (leader != 0) = true := by rw [bne_iff_ne]; exact l0
              by_cases lin : leader ∈ conf
              · have HL : Hid (leader = 0 ∨ leader ∈ conf) := Lib.hid (.inr lin)
                rw [decide_eq_true lin] at HLC
                clear lin l0
                go_wp2_with fail
                refine HLC.out.mono ?_
                rintro e w'' ⟨rfl, rfl⟩
                go_wp2_with fail
                go_meet
                exact ⟨by rw [HNV.out, decide_eq_true HV.out, decide_eq_true HL.out]; rfl, rfl⟩
              · have HL : Hid (¬ (leader = 0 ∨ leader ∈ conf)) := Lib.hid (fun h => h.elim l0 lin)
                rw [decide_eq_false lin] at HLC
                clear lin l0
                go_wp2_with fail
                refine HLC.out.mono ?_
                rintro e w'' ⟨rfl, rfl⟩
                go_wp2_with fail
                go_meet
                exact ⟨by rw [HNV.out, decide_eq_true HV.out, decide_eq_false HL.out]; rfl, rfl⟩
          · have HV : Hid (¬ (vote = 0 ∨ vote ∈ conf)) := Lib.hid (fun h => h.elim v0 vin)
            rw [decide_eq_false vin] at HVC
            clear vin v0
            go_wp2_with fail
            refine HVC.out.mono ?_
            rintro e w' ⟨rfl, rfl⟩
            go_wp2_with fail
            go_meet
            exact ⟨by rw [HNV.out, decide_eq_false HV.out]; rfl, rfl⟩
      case rest =>
        obtain ⟨rfl, hw⟩ := hcut
        obtain rfl : w2 = wc := hw.symm
        cases nv with
        | true =>
          have HF := Lib.hid (HNO.out (fun hb => by
            have h1 : vote = 0 ∨ vote ∈ conf := hb.vote
            have h2 : leader = 0 ∨ leader ∈ conf := hb.leader
            have h3 := HNV.out
            rw [decide_eq_true h1, decide_eq_true h2] at h3
            cases h3))
          go_wp2_with fail
          go_ret
          exact ⟨ret_bool HF.out.symm, HBW.out⟩
        | false =>
          have hvl : (vote = 0 ∨ vote ∈ conf) ∧ (leader = 0 ∨ leader ∈ conf) := by
            have h3 := HNV.out
            by_cases h1 : vote = 0 ∨ vote ∈ conf
            · by_cases h2 : leader = 0 ∨ leader ∈ conf
              · exact ⟨h1, h2⟩
              · rw [decide_eq_false h2] at h3
                simp at h3
            · rw [decide_eq_false h1] at h3
              cases h3
          have HVT := Lib.hid hvl.1
          have HLD := Lib.hid hvl.2
          clear hvl HVC HLC
          -- the log's end
          have HL5 := Lib.hid (rlast2_calls b bt eA ec es w2 H2.out.es (by have := H2.out.es2; simp only at this; omega))
          obtain ⟨lN, hlN⟩ : ∃ lN, lN = Tr.lastN b bt es := ⟨_, rfl⟩
          obtain ⟨lT, hlT⟩ : ∃ lT, lT = Tr.lastT b bt es := ⟨_, rfl⟩
          rw [← hlN, ← hlT] at HL5
          have HLN := Lib.hid (show lN = b + es.length by rw [hlN]; exact Rf.lastN_eq HTR.out)
          have HLT := Lib.hid (show lT = Tr.at_ bt es es.length by rw [hlT]; exact Rf.lastT_eq HTR.out)
          clear hlN hlT
          go_wp2_with fail
          refine HL5.out.mono ?_
          rintro e w3 ⟨rfl, hb3⟩
          have HBW := Lib.hid (bel_tr HBW.out hb3)
          have HZ3 := Lib.hid (HZ2.out.bel hb3)
          have H3 := Lib.hid (H2.out.bel hb3)
          have hz : ∀ i, w3.cell? ⟨w.heap.size, i, none⟩ = (#[.int .i64 id, .slice cA conf.length cc, .int .i64 term, .int .i64 vote, .int .i64 role, .int .i64 leader, .int .i64 b, .int .i64 bt, .slice eA es.length ec, .string snap, .int .i64 commit, .int .i64 left, .int .i64 wait, .slice vA votes.length vc, .slice nA next.length nc, .slice mA mtch.length mc] : Array Value)[i]? := HZ3.out.cells
          clear hb3 HL5 HZ2 H2
          by_cases q1 : lT ≤ term
          rotate_left
          · have HF := Lib.hid (HNO.out (fun hb => q1 (by rw [HLT.out]; exact hb.fit.at_ _ (Nat.le_refl _))))
            have q1i : term < lT := by omega
            go_wp2_with fail
            go_ret
            exact ⟨ret_bool HF.out.symm, HBW.out⟩
          have q1i : ¬ term < lT := by omega
          have q1d : decide (term < lT) = false := decide_eq_false q1i
          by_cases q2 : snap.size ≤ 60000
          rotate_left
          · have HF := Lib.hid (HNO.out (fun hb => q2 (hb.snap)))
            have q2i : (60000 : Int) < (snap.size : Int) := by omega
            have q2j : 60000 < snap.size := by omega
            go_wp2_with fail
            go_ret
            exact ⟨ret_bool HF.out.symm, HBW.out⟩
          have q2i : ¬ (60000 : Int) < (snap.size : Int) := by omega
          have q2j : ¬ 60000 < snap.size := by omega
          by_cases q3 : b ≤ commit
          rotate_left
          · have HF := Lib.hid (HNO.out (fun hb => q3 (hb.com0)))
            have q3i : commit < b := by omega
            go_wp2_with fail
            go_ret
            exact ⟨ret_bool HF.out.symm, HBW.out⟩
          have q3i : ¬ commit < b := by omega
          by_cases q4 : commit ≤ lN
          rotate_left
          · have HF := Lib.hid (HNO.out (fun hb => q4 (by rw [HLN.out]; exact hb.com1)))
            have q4i : lN < commit := by omega
            go_wp2_with fail
            go_ret
            exact ⟨ret_bool HF.out.symm, HBW.out⟩
          have q4i : ¬ lN < commit := by omega
          by_cases q5 : 0 ≤ left
          rotate_left
          · have HF := Lib.hid (HNO.out (fun hb => q5 (hb.left0)))
            have q5i : left < 0 := by omega
            go_wp2_with fail
            go_ret
            exact ⟨ret_bool HF.out.symm, HBW.out⟩
          have q5i : ¬ left < 0 := by omega
          by_cases q6 : left ≤ 100
          rotate_left
          · have HF := Lib.hid (HNO.out (fun hb => q6 (hb.left1)))
            have q6i : 100 < left := by omega
            go_wp2_with fail
            go_ret
            exact ⟨ret_bool HF.out.symm, HBW.out⟩
          have q6i : ¬ 100 < left := by omega
          by_cases q7 : 10 ≤ wait
          rotate_left
          · have HF := Lib.hid (HNO.out (fun hb => q7 (hb.wait0)))
            have q7i : wait < 10 := by omega
            go_wp2_with fail
            go_ret
            exact ⟨ret_bool HF.out.symm, HBW.out⟩
          have q7i : ¬ wait < 10 := by omega
          by_cases q8 : wait < 20
          rotate_left
          · have HF := Lib.hid (HNO.out (fun hb => q8 (hb.wait1)))
            have q8i : 19 < wait := by omega
            go_wp2_with fail
            go_ret
            exact ⟨ret_bool HF.out.symm, HBW.out⟩
          have q8i : ¬ 19 < wait := by omega
          have HBASE : Rf.Base (⟨id, conf, term, vote, role, leader, b, bt, es, snap, commit, left, wait, votes, next, mtch⟩ : Nod) := { conf := HC1.out, id := HID.out, term0 := HT0.out, term1 := HT1.out, vote := HVT.out, leader := HLD.out, trail := HTR.out, fit := Rf.fit_of (Tr.chk_fol HTR.out) (by rw [← HLT.out]; exact q1), snap := q2, com0 := q3, com1 := by rw [← HLN.out]; exact q4, left0 := q5, left1 := q6, wait0 := q7, wait1 := q8 }
          have HR := Lib.hid (HQ.out.trans (Rf.chk_role HBASE))
          clear HBASE
          by_cases r0 : role = 0
          · subst r0
            have HR0 := Lib.hid (show q = (decide (votes.length = 0) && decide (next.length = 0) && decide (mtch.length = 0)) from HR.out)
            by_cases v0 : votes.length = 0
            rotate_left
            · have HF := Lib.hid (show q = false from by rw [HR0.out, decide_eq_false v0]; rfl)
              have v0b : ((votes.length : Int) == 0) = false := by rw [beq_eq_false_iff_ne]; omega
              have v0e : ¬ votes = [] := fun e => v0 (by rw [e]; rfl)
              clear v0
              go_wp2_with fail
              go_ret
              exact ⟨ret_bool HF.out.symm, HBW.out⟩
            obtain rfl : votes = [] := List.eq_nil_of_length_eq_zero v0
            by_cases n0 : next.length = 0
            rotate_left
            · have HF := Lib.hid (show q = false from by rw [HR0.out, decide_eq_false n0]; rfl)
              have n0b : ((next.length : Int) == 0) = false := by rw [beq_eq_false_iff_ne]; omega
              have n0e : ¬ next = [] := fun e => n0 (by rw [e]; rfl)
              clear n0 v0
              go_wp2_with fail
              go_ret
              exact ⟨ret_bool HF.out.symm, HBW.out⟩
            obtain rfl : next = [] := List.eq_nil_of_length_eq_zero n0
            by_cases m0 : mtch.length = 0
            rotate_left
            · have HF := Lib.hid (show q = false from by rw [HR0.out, decide_eq_false m0]; rfl)
              have m0b : ((mtch.length : Int) == 0) = false := by rw [beq_eq_false_iff_ne]; omega
              have m0e : ¬ mtch = [] := fun e => m0 (by rw [e]; rfl)
              clear m0 n0 v0
              go_wp2_with fail
              go_ret
              exact ⟨ret_bool HF.out.symm, HBW.out⟩
            obtain rfl : mtch = [] := List.eq_nil_of_length_eq_zero m0
            have HF := Lib.hid (show q = true from HR0.out)
            clear m0 n0 v0
            go_wp2_with fail
            go_ret
            exact ⟨ret_bool HF.out.symm, HBW.out⟩
          have r0b : (role == 0) = false := by rw [beq_eq_false_iff_ne]; exact r0
          by_cases r1 : role = 1
          · subst r1
            have HF := Lib.hid (show q = Rf.cand ⟨id, conf, term, vote, 1, leader, b, bt, es, snap, commit, left, wait, votes, next, mtch⟩ from HR.out)
            have HCD := Lib.hid (candidate_calls ⟨id, conf, term, vote, 1, leader, b, bt, es, snap, commit, left, wait, votes, next, mtch⟩ ⟨cA, cc, eA, ec, vA, vc, nA, nc, mA, mc, oA, oc⟩ w3 (Lib.hid H3.out))
            go_upto_region 14 with (fail)
            clear hz
            go_wp2_with (refine wpList_loadB rfl 28 (.tmp 1) rfl w.heap.size rfl HZ3.out Tryz.underlying28 infoR ?_)
            refine HCD.out.mono ?_
            rintro e w4 ⟨rfl, hb4⟩
            have HB4 := Lib.hid (bel_tr HBW.out hb4)
            clear hb4
            go_wp2_with fail
            go_ret
            exact ⟨ret_bool HF.out.symm, HB4.out⟩
          have r1b : (role == 1) = false := by rw [beq_eq_false_iff_ne]; exact r1
          by_cases r2 : role = 2
          · subst r2
            have HF := Lib.hid (show q = Rf.ldr ⟨id, conf, term, vote, 2, leader, b, bt, es, snap, commit, left, wait, votes, next, mtch⟩ from HR.out)
            have HLD2 := Lib.hid (leader_calls ⟨id, conf, term, vote, 2, leader, b, bt, es, snap, commit, left, wait, votes, next, mtch⟩ ⟨cA, cc, eA, ec, vA, vc, nA, nc, mA, mc, oA, oc⟩ w3 (Lib.hid H3.out))
            go_upto_region 16 with (fail)
            clear hz
            go_wp2_with (refine wpList_loadB rfl 28 (.tmp 1) rfl w.heap.size rfl HZ3.out Tryz.underlying28 infoR ?_)
            refine HLD2.out.mono ?_
            rintro e w4 ⟨rfl, hb4⟩
            have HB4 := Lib.hid (bel_tr HBW.out hb4)
            clear hb4
            go_wp2_with fail
            go_ret
            exact ⟨ret_bool HF.out.symm, HB4.out⟩
          have r2b : (role == 2) = false := by rw [beq_eq_false_iff_ne]; exact r2
          have HF := Lib.hid (show q = false from by rw [HR.out, if_neg r0, if_neg r1, if_neg r2])
          go_wp2_with fail
          go_ret
          exact ⟨ret_bool HF.out.symm, HBW.out⟩
end Go.Proofs.YtdladjgdhnkkcaaGreat
