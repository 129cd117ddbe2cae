
/-
  Contract of the reference of layer 14: what has been reached is agreed on.
  Conditions: the node lies in memory.
-/
import Derived.Test.YtdladjgdhnkkcaaGreatZRg2ToRg3
import Derived.Test.YtdladjgdhnkkcaaGreatZRf6ToRf9
namespace Go.Proofs.YtdladjgdhnkkcaaGreat
open Go.RowKit
set_option linter.unusedVariables false
set_option linter.unusedSimpArgs false
set_option maxHeartbeats 4000000

set_option maxRecDepth 20000 in
theorem ragree_calls {base g : Nat} {col : Nat → Nat} {r : Nod} {x : NdX} {L : List MsgV} {w : World} (H : Hid (Nd 36 base g col r x L w)) (hc0 : 0 < r.conf.length) (hc7 : r.conf.length ≤ 7) (hm : r.mtch.length = r.conf.length) (hlen : r.es.length ≤ 4096) :
    Calls Tryz.prog 77 #[.pointer (some ⟨g, 0, none⟩)] w (Now 36 base g (Rf.agree r) x L w) := by
  obtain ⟨mb, hmA, hgm, hml, hmb, hmc⟩ := H.out.mtch_blk (by omega)
  obtain ⟨cb, co, hcA, hcl, _⟩ := H.out.conf_at 0 hc0
  have HR := Lib.hid (H.out.rest.conf.rd)
  obtain ⟨q, hq⟩ : ∃ q, q = Rf.agree r := ⟨_, rfl⟩
  rw [← hq]
  have HQ := Lib.hid hq
  unfold Rf.agree at HQ
  obtain ⟨at_, hat⟩ : ∃ a, a = Rf.reach r := ⟨_, rfl⟩
  rw [← hat] at HQ
  have HAT := Lib.hid hat
  obtain ⟨id, conf, term, vote, role, leader, b, bt, es, snap, commit, left, wait, votes, next, mtch⟩ := r
  obtain ⟨cA, cc, eA, ec, vA, vc, nA, nc, mA, mc, oA, oc⟩ := x
  simp only at hcA hmA hm hlen hc7 hc0
  subst hcA; subst hmA
  have hC : ∀ i, w.cell? ⟨g, i, none⟩ = _ := H.out.blk.cells
  dsimp only [nodeC] at hC
  have hgl := H.out.blk.lt
  have hbs := Lib.hid H.out.rest.bs
  have hge := Lib.hid H.out.ge
  clear hq hat hC
  go_enter Tryz.func77, Tryz.ntmps77
  go_wp2_with fail
  go_loopg [2, 3] conf.length (fun n v2 v3 W => Below w.heap.size w W ∧ ∃ k : Nat, v3 = .int .i64 k ∧ Hid (k + n = conf.length ∧ OwnL layIt 90 W w.heap.size v2 ((conf.zip mtch).take k)))
  case atStart => exact ⟨Below.refl _ _, 0, rfl, Lib.hid ⟨by omega, by simpa using OwnL.nil _ _⟩⟩
  case round =>
    obtain ⟨hb, k, rfl, HI⟩ := hrel
    have N := Lib.hid (H.out.bel hb)
    have hC1 : ∀ i, wr.cell? ⟨g, i, none⟩ = (#[.int .i64 id, .slice (some ⟨cb, co, none⟩) conf.length cc, .int .i64 term, .int .i64 vote, .int .i64 role, .int .i64 leader, .int .i64 b, .int .i64 bt, .slice eA es.length ec, .string snap, .int .i64 commit, .int .i64 left, .int .i64 wait, .slice vA votes.length vc, .slice nA next.length nc, .slice (some ⟨mb, 0, none⟩) mtch.length mc, .slice oA L.length oc] : Array Value)[i]? := N.out.blk.cells
    have hg1 := N.out.blk.lt
    have hf1 := N.out.blk.free
    have HB := Lib.hid hb
    clear hgl hb
    by_cases hlt : k < conf.length
    · have hl : (k : Int) < (conf.length : Int) := by omega
      have hl2 : (k : Int) < (mtch.length : Int) := by omega
      have hg : 0 < gk := by have := HI.out.1; omega
      have hk1 : (k : Int) + 1 ≤ 9223372036854775807 := by omega
      have cc1 := N.out.conf_cell rfl k hlt rfl
      obtain ⟨mc1, _⟩ := N.out.mtch_cell rfl k (show k < mtch.length by omega)
      have hst := zip_take conf mtch k hlt (by omega)
      simp only at mc1
      generalize conf.getD k 0 = c at *
      generalize mtch.getD k 0 = m at *
      have HST := Lib.hid hst
      have hkl : ((conf.zip mtch).take k).length = k := by rw [List.length_take, List.length_zip]; omega
      have HKL := Lib.hid hkl
      have HO := Lib.hid HI.out.2
      obtain ⟨A0, c0, hv2, -, -, -, -⟩ := HI.out.2.form
      rw [hkl] at hv2
      subst hv2
      have hBc : cb < wr.heap.size := Nat.lt_of_lt_of_le hcl HB.out.size
      have hBm : mb < wr.heap.size := Nat.lt_of_lt_of_le hml HB.out.size
      clear hst hkl
      go_wp2_with fail
      go_region_law (first
        | (refine step_appL 88 _ 16 Tryz.underlying88 infoIt2 rfl rfl (.tmp 17) (.tmp 35) rfl w.heap.size _ _ rfl (HO.out.kept (bel_drew (bel_new (Below.refl _ wr) (.cells #[.int .i64 c, .int .i64 m] 90)))) (some ⟨wr.heap.size, 0, none⟩) 1 1 [(c, m)] rfl rfl ((rdI_pair wr c m).bel (bel_drew (Below.refl _ _))) (by rw [HKL.out]; simp [maxLen]; omega) (by rw [HKL.out]; simp; omega) (bel_drew (bel_new HB.out _)).size ?_
           intro v5 w5 ho5 hg5
           have hb5 := Lib.hid (OwnL.grown (w0 := w) (HO.out.kept (bel_drew (bel_new (Below.refl _ wr) (.cells #[.int .i64 c, .int .i64 m] 90)))) (bel_drew (bel_new HB.out _)) (bel_drew (bel_new HB.out _)).size hg5)
           clear hg5))
      all_goals
        go_wp2_with fail
        go_roundg (gk - 1)
        case rel => exact ⟨hb5.out, k + 1, by go_num, Lib.hid ⟨by have := HI.out.1; omega, by rw [HST.out]; exact ho5⟩⟩
        case measure => omega
    · have hl : ¬ (k : Int) < (conf.length : Int) := by omega
      obtain ⟨hkg, hown⟩ := HI.out
      rw [show k = conf.length from by omega, List.take_of_length_le (by rw [List.length_zip]; omega)] at hown
      obtain ⟨zl, hz⟩ : ∃ zl, zl = conf.zip mtch := ⟨_, rfl⟩
      have hzl : zl.length = conf.length := by rw [hz, List.length_zip]; omega
      have hre : Qm.reached conf zl = at_ := by rw [hz]; exact HAT.out.symm
      rw [← hz] at hown
      obtain ⟨A2, c2, rfl, _, _, hR2, _⟩ := hown.form
      have HRR := Lib.hid (rreached_calls (some ⟨cb, co, none⟩) A2 cc c2 conf zl wr (Lib.hid (N.out.rest.conf.rd.2.1)) (by omega) (Lib.hid hR2) (by rw [hzl]; omega))
      rw [hre] at HRR
      clear hz hre
      clear hkg hown HI hlt hR2 hzl
      have HTM := Lib.hid (rterm2_calls b bt at_ eA ec es wr N.out.rest.es.rd (by omega))
      go_wp2_with fail
      refine HRR.out.mono ?_
      rintro e w2 ⟨rfl, rfl⟩
      have hend : ∀ (s : Nod) (W : World), q = s → (∃ col, Nd 36 base g col s ⟨some ⟨cb, co, none⟩, cc, eA, ec, vA, vc, nA, nc, some ⟨mb, 0, none⟩, mc, oA, oc⟩ L W) → Below base w W → Now 36 base g q ⟨some ⟨cb, co, none⟩, cc, eA, ec, vA, vc, nA, nc, some ⟨mb, 0, none⟩, mc, oA, oc⟩ L w (.returned (.tuple #[])) W := fun s W h1 h2 h3 => ⟨rfl, by rw [h1]; exact h2, h3⟩
      have HEND := Lib.hid hend
      clear hend HRR
      by_cases h1 : commit < at_
      · have h1b : ¬ at_ ≤ commit := by omega
        go_wp2_with fail
        refine HTM.out.mono ?_
        rintro e w3 ⟨rfl, hb3⟩
        have N3 := Lib.hid (N.out.bel hb3)
        have HB3 := Lib.hid (bel_tr HB.out hb3)
        have hC3 : ∀ i, w3.cell? ⟨g, i, none⟩ = (#[.int .i64 id, .slice (some ⟨cb, co, none⟩) conf.length cc, .int .i64 term, .int .i64 vote, .int .i64 role, .int .i64 leader, .int .i64 b, .int .i64 bt, .slice eA es.length ec, .string snap, .int .i64 commit, .int .i64 left, .int .i64 wait, .slice vA votes.length vc, .slice nA next.length nc, .slice (some ⟨mb, 0, none⟩) mtch.length mc, .slice oA L.length oc] : Array Value)[i]? := N3.out.blk.cells
        have hg3 := N3.out.blk.lt
        have hf3 := N3.out.blk.free
        obtain ⟨tm, htm⟩ : ∃ tm, tm = Rf.trm0 (⟨id, conf, term, vote, role, leader, b, bt, es, snap, commit, left, wait, votes, next, mtch⟩ : Nod) at_ := ⟨_, rfl⟩
        have htm' : (if Tr.has b bt es at_ = true then Tr.trm b bt es at_ else 0) = tm := htm.symm
        simp only [htm']
        rw [← htm] at HQ
        generalize hhas : Tr.has b bt es at_ = hs at *
        clear hC1 hg1 hf1 HTM hb3 HB htm htm' hhas
        have HBB := Lib.hid (bel_base HB3.out hbs.out)
        cases hs with
        | false =>
          go_wp2_with fail
          go_end0
          exact HEND.out _ _ (by rw [HQ.out, if_neg (by simp)]) ⟨col, N3.out⟩ HBB.out
        | true =>
          by_cases h2 : tm = term
          · have h2b : (tm == term) = true := by rw [beq_iff_eq]; exact h2
            have HF := Lib.hid (show q = ⟨id, conf, term, vote, role, leader, b, bt, es, snap, at_, left, wait, votes, next, mtch⟩ by rw [HQ.out, if_pos ⟨rfl, h1, h2⟩])
            clear h2
            go_wp2_with fail
            go_end0
            exact HEND.out _ _ HF.out ⟨col, N3.out.ge, N3.out.gc, N3.out.blk.set 10 _, (N3.out.rest.set1 N3.out.gc _).plain _ rfl rfl rfl rfl rfl⟩ (HBB.out.setCell hge.out _)
          · have h2b : (tm == term) = false := by rw [beq_eq_false_iff_ne]; exact h2
            have HF := Lib.hid (show q = ⟨id, conf, term, vote, role, leader, b, bt, es, snap, commit, left, wait, votes, next, mtch⟩ by rw [HQ.out, if_neg (fun h => h2 h.2.2)])
            clear h2
            go_wp2_with fail
            go_end0
            exact HEND.out _ _ HF.out ⟨col, N3.out⟩ HBB.out
      · have h1b : at_ ≤ commit := by omega
        have HF := Lib.hid (show q = ⟨id, conf, term, vote, role, leader, b, bt, es, snap, commit, left, wait, votes, next, mtch⟩ by rw [HQ.out, if_neg (fun h => h1 h.2.1)])
        go_wp2_with fail
        go_end0
        exact HEND.out _ _ HF.out ⟨col, N.out⟩ (bel_base HB.out hbs.out)
end Go.Proofs.YtdladjgdhnkkcaaGreat
