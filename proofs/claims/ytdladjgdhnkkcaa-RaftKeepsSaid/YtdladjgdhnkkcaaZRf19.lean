
/-
  Contracts: whether a leader's numbers, a node are right.
  Conditions: the node can be read.
-/
import Derived.Test.YtdladjgdhnkkcaaZRf17
namespace Go.Proofs.Ytdladjgdhnkkcaa
open Go.RowKit
set_option linter.unusedVariables false
set_option linter.unusedSimpArgs false
set_option maxHeartbeats 20000000

theorem kn_step {last : Int} {ms ns : List Int} {k : Nat} (h : k < ms.length) (h2 : k < ns.length) : Rf.kn last (ms.drop k) (ns.drop k) = (decide (0 ≤ ms.getD k 0 ∧ ms.getD k 0 ≤ last ∧ ms.getD k 0 < ns.getD k 0 ∧ ns.getD k 0 ≤ last + 1) && Rf.kn last (ms.drop (k + 1)) (ns.drop (k + 1))) := by
  rw [Qm.drop_at ms k h, Qm.drop_at ns k h2]
  rfl

set_option maxRecDepth 20000 in
theorem known_calls (r : Nod) (x : NdX) (w : World) (h : Hid (RdR w r x)) :
    Calls Try.prog 70 #[raftV r x] w fun e w' => e = .returned (.bool (Rf.known r)) ∧ Below w.heap.size w w' := by
  obtain ⟨q, hq⟩ : ∃ q, q = Rf.known r := ⟨_, rfl⟩
  rw [← hq]
  have HQ := Lib.hid hq
  unfold Rf.known Rf.lens at HQ
  clear hq
  obtain ⟨id, conf, term, vote, role, leader, b, bt, es, snap, commit, left, wait, votes, next, mtch⟩ := r
  obtain ⟨cA, cc, eA, ec, vA, vc, nA, nc, mA, mc, oA, oc⟩ := x
  have HB1 := Lib.hid (bel_new (Below.refl w.heap.size w) (.cells #[.int .i64 id, .slice cA conf.length cc, .int .i64 term, .int .i64 vote, .int .i64 role, .int .i64 leader, .int .i64 b, .int .i64 bt, .slice eA es.length ec, .string snap, .int .i64 commit, .int .i64 left, .int .i64 wait, .slice vA votes.length vc, .slice nA next.length nc, .slice mA mtch.length mc] 48))
  have HZ1 := Lib.hid (Blk.new w 48 #[.int .i64 id, .slice cA conf.length cc, .int .i64 term, .int .i64 vote, .int .i64 role, .int .i64 leader, .int .i64 b, .int .i64 bt, .slice eA es.length ec, .string snap, .int .i64 commit, .int .i64 left, .int .i64 wait, .slice vA votes.length vc, .slice nA next.length nc, .slice mA mtch.length mc])
  have H1 := Lib.hid (h.out.bel HB1.out)
  have el2 := h.out.es2
  have nl2 := h.out.next2
  have ml2 := h.out.mtch2
  simp only at el2 nl2 ml2
  have hz := HZ1.out.cells
  by_cases hl : vote = id ∧ leader = id ∧ next.length = conf.length ∧ mtch.length = conf.length
  rotate_left
  · have HF := Lib.hid (show q = false from by rw [HQ.out]; simp only; rw [decide_eq_false hl]; rfl)
    have HN := Lib.hid hl
    clear hl
    go_enter Try.func70, Try.ntmps70
    go_wp2_with fail
    all_goals first
      | (exfalso; apply HN.out; simp_all; omega)
      | (go_ret
         exact ⟨ret_bool HF.out.symm, bel_new (Below.refl _ _) _⟩)
  obtain ⟨l1, l2, l3, l4⟩ := hl
  obtain ⟨lN, hlN⟩ : ∃ lN, lN = Tr.lastN b bt es := ⟨_, rfl⟩
  obtain ⟨lT, hlT⟩ : ∃ lT, lT = Tr.lastT b bt es := ⟨_, rfl⟩
  have hlb : 0 ≤ lN ∧ lN ≤ 1099511627776 := by
    rw [hlN]
    by_cases hc : Tr.chk b bt es = true
    · have := Tr.chk_rim hc
      rw [Rf.lastN_eq hc]; omega
    · unfold Tr.lastN; rw [if_neg hc]; omega
  have HF0 := Lib.hid (show q = Rf.kn lN mtch next from by rw [HQ.out, hlN]; simp [l1, l2, l3, l4])
  have HL2 := Lib.hid (fun W (hR : RdE W eA es) => last2_calls b bt eA ec es W hR (by omega))
  rw [← hlN, ← hlT] at HL2
  have l1b : (vote != id) = false := by rw [l1]; simp
  have l2b : (leader != id) = false := by rw [l2]; simp
  have l3b : ((next.length : Int) != (conf.length : Int)) = false := by rw [l3]; simp
  have l4b : ((mtch.length : Int) != (conf.length : Int)) = false := by rw [l4]; simp
  have L34 := Lib.hid (And.intro l3 l4)
  clear l1 l2 l3 l4 hlN hlT
  go_enter Try.func70, Try.ntmps70
  go_wp2_with fail
  refine (HL2.out _ H1.out.es).mono ?_
  rintro e w2 ⟨rfl, hb2⟩
  have HB2 := Lib.hid (bel_tr HB1.out hb2)
  have H2 := Lib.hid (H1.out.bel hb2)
  have hz2 : ∀ i, w2.cell? ⟨w.heap.size, i, none⟩ = (#[.int .i64 id, .slice cA conf.length cc, .int .i64 term, .int .i64 vote, .int .i64 role, .int .i64 leader, .int .i64 b, .int .i64 bt, .slice eA es.length ec, .string snap, .int .i64 commit, .int .i64 left, .int .i64 wait, .slice vA votes.length vc, .slice nA next.length nc, .slice mA mtch.length mc] : Array Value)[i]? := (HZ1.out.bel hb2).cells
  clear hz hb2 HL2
  go_wp2_with fail
  go_loopg [5, 6, 46] mtch.length (fun g v5 v6 v46 W => W = w2 ∧ ∃ k : Nat, v46 = .int .i64 k ∧ Hid (k + g = mtch.length ∧ q = Rf.kn lN (mtch.drop k) (next.drop k)))
  case atStart => exact ⟨rfl, 0, rfl, Lib.hid ⟨by omega, by simpa using HF0.out⟩⟩
  case round =>
    obtain ⟨rfl, k, rfl, HI⟩ := hrel
    by_cases hlt : k < mtch.length
    · have hl : (k : Int) < (mtch.length : Int) := by omega
      have hk2 : k < next.length := by have := L34.out; omega
      have hl2 : (k : Int) < (next.length : Int) := by omega
      have hg : 0 < gk := by have := HI.out.1; omega
      obtain ⟨b1, o1, e1, _, hmk⟩ := H2.out.mtch.int k hlt
      obtain ⟨b2, o2, e2, _, hnk⟩ := H2.out.next.int k hk2
      simp only at e1 e2
      subst e1; subst e2
      have hst := kn_step (last := lN) hlt hk2
      obtain ⟨mx, hmx⟩ : ∃ mx, mx = mtch.getD k 0 := ⟨_, rfl⟩
      obtain ⟨nx, hnx⟩ : ∃ nx, nx = next.getD k 0 := ⟨_, rfl⟩
      rw [show mtch.getD k default = mx from hmx.symm] at hmk
      rw [show next.getD k default = nx from hnx.symm] at hnk
      rw [← hmx, ← hnx] at hst
      have HST := Lib.hid (HI.out.2.trans hst)
      have HK1 := Lib.hid HI.out.1
      have hw1 : IntKind.i64.wrap (lN + 1) = lN + 1 := IntWalk.i64_in _ (by omega)
      clear hst hmx hnx HI
      by_cases hok : 0 ≤ mx ∧ mx ≤ lN ∧ mx < nx ∧ nx ≤ lN + 1
      · have hf : q = Rf.kn lN (mtch.drop (k + 1)) (next.drop (k + 1)) := by rw [HST.out, decide_eq_true hok, Bool.true_and]
        have HFF := Lib.hid hf
        obtain ⟨p1, p2, p3, p4⟩ := hok
        have p1' : ¬ mx < 0 := by omega
        have p2' : ¬ lN < mx := by omega
        have p3' : ¬ nx ≤ mx := by omega
        have p4' : ¬ lN + 1 < nx := by omega
        clear hf
        go_wp2_with fail
        all_goals first
          | omega
          | (go_roundg (gk - 1)
             case rel => exact ⟨rfl, k + 1, by go_num, Lib.hid ⟨by have := HK1.out; omega, HFF.out⟩⟩
             case measure => omega)
      · have hf : q = false := by rw [HST.out, decide_eq_false hok, Bool.false_and]
        have HFF := Lib.hid hf
        have HN := Lib.hid hok
        clear hf hok
        go_wp2_with fail
        all_goals first
          | (exfalso; have := HN.out; omega)
          | (go_ret
             exact ⟨ret_bool HFF.out.symm, HB2.out⟩)
    · have hl : ¬ (k : Int) < (mtch.length : Int) := by omega
      have hf : q = true := by rw [HI.out.2, List.drop_eq_nil_of_le (by omega), List.drop_eq_nil_of_le (by have := L34.out; omega)]; rfl
      have HFF := Lib.hid hf
      clear hf hlt
      go_wp2_with fail
      go_ret
      exact ⟨ret_bool HFF.out.symm, HB2.out⟩
end Go.Proofs.Ytdladjgdhnkkcaa
