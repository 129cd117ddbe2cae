
/-
  2 texts in one.
  Conditions: stated lemma by lemma.
-/
import Derived.Test.YtdladjgdhnkkcaaGreatZRf3ToRf5
/-
  Contract: what more than half have reached is agreed on.
  Conditions: the node lies in memory, its log is right, its lists are as long as its configuration.
-/
namespace Go.Proofs.YtdladjgdhnkkcaaGreat
open Go.RowKit
set_option linter.unusedVariables false
set_option linter.unusedSimpArgs false
set_option maxHeartbeats 2000000

theorem infoIt2 : (Tryz.prog.info? 90).map (fun i => (i.zero, i.size, i.bytes)) = some (some (.agg #[.int .i64 0, .int .i64 0]), 2, 16) := by kernel_rfl
theorem zip_take (l m : List Int) (k : Nat) (h : k < l.length) (h2 : k < m.length) : (l.zip m).take (k + 1) = (l.zip m).take k ++ [(l.getD k 0, m.getD k 0)] := by
  have hk : k < (l.zip m).length := by rw [List.length_zip]; omega
  rw [List.take_succ_eq_append_getElem hk]
  simp [List.getD, h, h2]
theorem rdI_pair (w : World) (a b : Int) : RdL layIt (w.alloc (.cells #[.int .i64 a, .int .i64 b] 90)) (some ⟨w.heap.size, 0, none⟩) [(a, b)] := rdL_lit w _ _ (by simp [maxLen]) _ rfl

set_option maxRecDepth 20000 in
theorem agree_calls {base g : Nat} {col : Nat → Nat} {r : Nod} {x : NdX} {L : List MsgV} {w : World} (H : Hid (Nd 53 base g col r x L w)) (hc0 : 0 < r.conf.length) (hc7 : r.conf.length ≤ 7) (hm : r.mtch.length = r.conf.length) (hlen : r.es.length ≤ 4096) :
    Calls Tryz.prog 63 #[.pointer (some ⟨g, 0, none⟩)] w (Now 53 base g (Rf.agree r) x L w) := by
  obtain ⟨mb, hmA, hgm, hml, hmb, hmc⟩ := H.out.mtch_blk (by omega)
  obtain ⟨cb, co, hcA, hcl, _⟩ := H.out.conf_at 0 hc0
  have HR := Lib.hid (H.out.rest.conf.rd)
  obtain ⟨q, hq⟩ : ∃ q, q = Rf.agree r := ⟨_, rfl⟩
  rw [← hq]
  have HQ := Lib.hid hq
  unfold Rf.agree at HQ
  obtain ⟨at_, hat⟩ : ∃ a, a = Rf.reach r := ⟨_, rfl⟩
  rw [← hat] at HQ
  have HAT := Lib.hid hat
  obtain ⟨id, conf, term, vote, role, leader, b, bt, es, snap, commit, left, wait, votes, next, mtch⟩ := r
  obtain ⟨cA, cc, eA, ec, vA, vc, nA, nc, mA, mc, oA, oc⟩ := x
  simp only at hcA hmA hm hlen hc7 hc0
  subst hcA; subst hmA
  have hC : ∀ i, w.cell? ⟨g, i, none⟩ = _ := H.out.blk.cells
  dsimp only [nodeC] at hC
  have hgl := H.out.blk.lt
  have hbs := Lib.hid H.out.rest.bs
  have hge := Lib.hid H.out.ge
  clear hq hat
  go_enter Tryz.func63, Tryz.ntmps63
  go_wp2_with fail
  go_loopg [2, 3, 4, 14] conf.length (fun n v2 v3 v4 v14 W => Below w.heap.size w W ∧ ∃ k : Nat, v14 = .int .i64 k ∧ Hid (k + n = conf.length ∧ OwnL layIt 90 W w.heap.size v2 ((conf.zip mtch).take k)))
  case atStart => exact ⟨Below.refl _ _, 0, rfl, Lib.hid ⟨by omega, by simpa using OwnL.nil _ _⟩⟩
  case round =>
    obtain ⟨hb, k, rfl, HI⟩ := hrel
    have N := Lib.hid (H.out.bel hb)
    have hC1 : ∀ i, wr.cell? ⟨g, i, none⟩ = (#[.int .i64 id, .slice (some ⟨cb, co, none⟩) conf.length cc, .int .i64 term, .int .i64 vote, .int .i64 role, .int .i64 leader, .int .i64 b, .int .i64 bt, .slice eA es.length ec, .string snap, .int .i64 commit, .int .i64 left, .int .i64 wait, .slice vA votes.length vc, .slice nA next.length nc, .slice (some ⟨mb, 0, none⟩) mtch.length mc, .slice oA L.length oc] : Array Value)[i]? := N.out.blk.cells
    have hg1 := N.out.blk.lt
    have hf1 := N.out.blk.free
    have HB := Lib.hid hb
    clear hC hgl hb
    by_cases hlt : k < conf.length
    · have hl : (k : Int) < (conf.length : Int) := by omega
      have hl2 : (k : Int) < (mtch.length : Int) := by omega
      have hg : 0 < gk := by have := HI.out.1; omega
      have cc1 := N.out.conf_cell rfl k hlt rfl
      obtain ⟨mc1, _⟩ := N.out.mtch_cell rfl k (show k < mtch.length by omega)
      have hst := zip_take conf mtch k hlt (by omega)
      simp only at mc1
      generalize conf.getD k 0 = c at *
      generalize mtch.getD k 0 = m at *
      have HST := Lib.hid hst
      have hkl : ((conf.zip mtch).take k).length = k := by rw [List.length_take, List.length_zip]; omega
      have HKL := Lib.hid hkl
      have HO := Lib.hid HI.out.2
      clear hst hkl
      go_wp2_with (first
        | (at_builtin
           refine wpList_appL 88 _ 16 Tryz.underlying88 infoIt2 rfl rfl (.tmp 19) (.tmp 30) rfl w.heap.size _ _ rfl (HO.out.kept (bel_new (Below.refl _ _) _)) (some ⟨wr.heap.size, 0, none⟩) 1 1 [(c, m)] rfl rfl (rdI_pair wr c m) (by rw [HKL.out]; simp [maxLen]; omega) (by rw [HKL.out]; simp; omega) (bel_new HB.out _).size ?_
           intro v5 w5 ho5 hg5
           have hb5 := Lib.hid (OwnL.grown (w0 := w) (HO.out.kept (bel_new (Below.refl _ _) _)) (bel_new HB.out _) (bel_new HB.out _).size hg5)
           clear hg5))
      go_roundg (gk - 1)
      case rel => exact ⟨hb5.out, k + 1, by go_num, Lib.hid ⟨by have := HI.out.1; omega, by rw [HST.out]; exact ho5⟩⟩
      case measure => omega
    · have hl : ¬ (k : Int) < (conf.length : Int) := by omega
      obtain ⟨hkg, hown⟩ := HI.out
      rw [show k = conf.length from by omega, List.take_of_length_le (by rw [List.length_zip]; omega)] at hown
      obtain ⟨zl, hz⟩ : ∃ zl, zl = conf.zip mtch := ⟨_, rfl⟩
      have hzl : zl.length = conf.length := by rw [hz, List.length_zip]; omega
      have hre : Qm.reached conf zl = at_ := by rw [hz]; exact HAT.out.symm
      rw [← hz] at hown
      obtain ⟨A2, c2, rfl, _, _, hR2, _⟩ := hown.form
      have HRR := Lib.hid (reached_calls (some ⟨cb, co, none⟩) A2 cc c2 conf zl wr (Lib.hid (N.out.rest.conf.rd.2.1)) HR.out.2.2.1 (by have := HR.out.2.2.2; unfold maxLen at this; exact this) (Lib.hid hR2) (by rw [hzl]; omega))
      rw [hre] at HRR
      clear hz hre
      clear hkg hown HI hlt hR2 hzl
      go_wp2_with fail
      refine HRR.out.mono ?_
      rintro e w2 ⟨rfl, hb2⟩
      have N2 := Lib.hid (N.out.bel hb2)
      have HB2 := Lib.hid (bel_tr HB.out hb2)
      have hC2 : ∀ i, w2.cell? ⟨g, i, none⟩ = (#[.int .i64 id, .slice (some ⟨cb, co, none⟩) conf.length cc, .int .i64 term, .int .i64 vote, .int .i64 role, .int .i64 leader, .int .i64 b, .int .i64 bt, .slice eA es.length ec, .string snap, .int .i64 commit, .int .i64 left, .int .i64 wait, .slice vA votes.length vc, .slice nA next.length nc, .slice (some ⟨mb, 0, none⟩) mtch.length mc, .slice oA L.length oc] : Array Value)[i]? := N2.out.blk.cells
      have hg2 := N2.out.blk.lt
      have HTM := Lib.hid (term2_calls b bt at_ eA ec es w2 N2.out.rest.es.rd (by omega))
      clear hC1 hg1 hf1 HRR hb2 HB
      go_wp2_with fail
      refine HTM.out.mono ?_
      rintro e w3 ⟨rfl, hb3⟩
      have N3 := Lib.hid (N2.out.bel hb3)
      have HB3 := Lib.hid (bel_tr HB2.out hb3)
      have hC3 : ∀ i, w3.cell? ⟨g, i, none⟩ = (#[.int .i64 id, .slice (some ⟨cb, co, none⟩) conf.length cc, .int .i64 term, .int .i64 vote, .int .i64 role, .int .i64 leader, .int .i64 b, .int .i64 bt, .slice eA es.length ec, .string snap, .int .i64 commit, .int .i64 left, .int .i64 wait, .slice vA votes.length vc, .slice nA next.length nc, .slice (some ⟨mb, 0, none⟩) mtch.length mc, .slice oA L.length oc] : Array Value)[i]? := N3.out.blk.cells
      have hg3 := N3.out.blk.lt
      have hf3 := N3.out.blk.free
      obtain ⟨tm, htm⟩ : ∃ tm, tm = Rf.trm0 (⟨id, conf, term, vote, role, leader, b, bt, es, snap, commit, left, wait, votes, next, mtch⟩ : Nod) at_ := ⟨_, rfl⟩
      have htm' : (if Tr.has b bt es at_ = true then Tr.trm b bt es at_ else 0) = tm := htm.symm
      simp only [htm']
      rw [← htm] at HQ
      generalize hhas : Tr.has b bt es at_ = hs at *
      clear hC2 hg2 HTM hb3 HB2 htm htm' hhas
      have hend : ∀ (s : Nod) (W : World), q = s → (∃ col, Nd 53 base g col s ⟨some ⟨cb, co, none⟩, cc, eA, ec, vA, vc, nA, nc, some ⟨mb, 0, none⟩, mc, oA, oc⟩ L W) → Below base w W → Now 53 base g q ⟨some ⟨cb, co, none⟩, cc, eA, ec, vA, vc, nA, nc, some ⟨mb, 0, none⟩, mc, oA, oc⟩ L w (.returned (.tuple #[])) W := fun s W h1 h2 h3 => ⟨rfl, by rw [h1]; exact h2, h3⟩
      have HEND := Lib.hid hend
      have HBB := Lib.hid (bel_base HB3.out hbs.out)
      clear hend
      cases hs with
      | false =>
        go_wp2_with fail
        go_end0
        exact HEND.out _ _ (by rw [HQ.out, if_neg (by simp)]) ⟨col, N3.out⟩ HBB.out
      | true =>
        by_cases h1 : commit < at_
        · by_cases h2 : tm = term
          · have h2b : (tm == term) = true := by rw [beq_iff_eq]; exact h2
            have HF := Lib.hid (show q = ⟨id, conf, term, vote, role, leader, b, bt, es, snap, at_, left, wait, votes, next, mtch⟩ by rw [HQ.out, if_pos ⟨rfl, h1, h2⟩])
            clear h2
            go_wp2_with fail
            go_end0
            exact HEND.out _ _ HF.out ⟨col, N3.out.ge, N3.out.gc, N3.out.blk.set 10 _, (N3.out.rest.set1 N3.out.gc _).plain _ rfl rfl rfl rfl rfl⟩ (HBB.out.setCell hge.out _)
          · have h2b : (tm == term) = false := by rw [beq_eq_false_iff_ne]; exact h2
            have HF := Lib.hid (show q = ⟨id, conf, term, vote, role, leader, b, bt, es, snap, commit, left, wait, votes, next, mtch⟩ by rw [HQ.out, if_neg (fun h => h2 h.2.2)])
            clear h2
            go_wp2_with fail
            go_end0
            exact HEND.out _ _ HF.out ⟨col, N3.out⟩ HBB.out
        · have HF := Lib.hid (show q = ⟨id, conf, term, vote, role, leader, b, bt, es, snap, commit, left, wait, votes, next, mtch⟩ by rw [HQ.out, if_neg (fun h => h1 h.2.1)])
          have h1b : decide (commit < at_) = false := decide_eq_false h1
          go_wp2_with fail
          go_end0
          exact HEND.out _ _ HF.out ⟨col, N3.out⟩ HBB.out
end Go.Proofs.YtdladjgdhnkkcaaGreat

/-
  Contracts: a leader has spoken; a message of an older term.
  Conditions: the node lies in memory.
-/
namespace Go.Proofs.YtdladjgdhnkkcaaGreat
open Go.RowKit
set_option linter.unusedVariables false
set_option linter.unusedSimpArgs false
set_option maxHeartbeats 2000000

/-- the node is as r tells, and no other block has changed -/
def Alone (t : TypeId) (base g : Nat) (r : Nod) (x : NdX) (L : List MsgV) (w : World) (e : Ending) (w' : World) : Prop :=
  e = .returned (.tuple #[]) ∧ (∃ col, Nd t base g col r x L w') ∧ Below base w w' ∧ ∀ b, b < w.heap.size → b ≠ g → w'.heap[b]? = w.heap[b]?
theorem far_sets {w : World} {g b : Nat} (hb : b ≠ g) (i : Nat) (v : Value) : (w.setCell ⟨g, i, none⟩ v).heap[b]? = w.heap[b]? := Below.heap_setCell w ⟨g, i, none⟩ v b hb

set_option maxRecDepth 20000 in
theorem follow_calls14 {base g : Nat} {col : Nat → Nat} {r : Nod} {x : NdX} {L : List MsgV} {w : World} (H : Hid (Nd 53 base g col r x L w)) (m : Msg) (A : Option Addr) (cap : Nat) :
    Calls Tryz.prog 64 #[.pointer (some ⟨g, 0, none⟩), msgV m A cap] w (Alone 53 base g (Rf.follow r m) { x with vA := none, vc := 0 } L w) := by
  obtain ⟨id, conf, term, vote, role, leader, b, bt, es, snap, commit, left, wait, votes, next, mtch⟩ := r
  obtain ⟨mk, ms, md, mt, mi, ml, mc, my, me, mdt⟩ := m
  have hC := H.out.blk.cells
  dsimp only [nodeC] at hC
  have hgl := H.out.blk.lt
  have hgf := H.out.blk.free
  go_enter Tryz.func64, Tryz.ntmps64
  go_wp2_with fail
  have HB := Lib.hid (bel_drew (bel_new (Below.refl w.heap.size w) (.cells #[.int .i64 mk, .int .i64 ms, .int .i64 md, .int .i64 mt, .int .i64 mi, .int .i64 ml, .int .i64 mc, .bool my, .slice A me.length cap, .string mdt] 30)))
  go_region
  all_goals
    go_end0
    refine ⟨rfl, ⟨col, H.out.ge, H.out.gc, (((((H.out.blk.set 4 _).set 13 _).set 5 _).set 11 _).alloc _).drewN 1, ?_⟩, ?_, fun b hb hne => ?_⟩
    · have h1 := ((((H.out.rest.set1 (p := ⟨g, 4, none⟩) H.out.gc (.int .i64 0)).set1 (p := ⟨g, 13, none⟩) H.out.gc (.slice none 0 0)).set1 (p := ⟨g, 5, none⟩) H.out.gc (.int .i64 ms)).set1 (p := ⟨g, 11, none⟩) H.out.gc (.int .i64 wait)).votes0
      exact (h1.bel (bel_drew (bel_new (Below.refl _ _) _))).plain _ rfl rfl rfl rfl rfl
    · have hge := H.out.ge
      exact bel_drew ((((((Below.refl base w).setCell hge _).setCell hge _).setCell hge _).setCell hge _).alloc (by simpa using H.out.rest.bs) _)
    · show (World.alloc _ _).heap[b]? = _
      rw [Below.heap_alloc _ _ _ (by simpa using hb), far_sets hne, far_sets hne, far_sets hne, far_sets hne]

set_option maxRecDepth 20000 in
theorem late_calls {base g : Nat} {col : Nat → Nat} {r : Nod} {x : NdX} {L : List MsgV} {w : World} (H : Hid (Nd 53 base g col r x L w)) (hL : L.length ≤ 900) (m : Msg) (A : Option Addr) (cap : Nat) :
    Calls Tryz.prog 19 #[.pointer (some ⟨g, 0, none⟩), msgV m A cap] w (Said 53 base g r x L (Rf.late r m) w) := by
  obtain ⟨mk, ms, md, mt, mi, ml, mc, my, me, mdt⟩ := m
  obtain ⟨Ms, hMs⟩ : ∃ Ms, Ms = Rf.late r ⟨mk, ms, md, mt, mi, ml, mc, my, me, mdt⟩ := ⟨_, rfl⟩
  rw [← hMs]
  unfold Rf.late at hMs
  simp only at hMs
  have N1 := Lib.hid (H.out.bel (bel_new (Below.refl w.heap.size w) (.cells #[.int .i64 mk, .int .i64 ms, .int .i64 md, .int .i64 mt, .int .i64 mi, .int .i64 ml, .int .i64 mc, .bool my, .slice A me.length cap, .string mdt] 30)))
  have HB1 := Lib.hid (bel_new (Below.refl w.heap.size w) (.cells #[.int .i64 mk, .int .i64 ms, .int .i64 md, .int .i64 mt, .int .i64 mi, .int .i64 ml, .int .i64 mc, .bool my, .slice A me.length cap, .string mdt] 30))
  have HBS := Lib.hid H.out.rest.bs
  by_cases h1 : mk = 1
  · rw [if_pos h1] at hMs
    have HM := Lib.hid hMs
    clear hMs
    subst h1
    go_enter Tryz.func19, Tryz.ntmps19
    go_wp2_with fail
    refine (send_calls N1 (by omega) ⟨2, 0, ms, 0, 0, 0, 0, false, [], ByteArray.empty⟩ none 0 (Lib.hid ⟨Nat.le_refl _, RdZ.nil⟩)).mono ?_
    rintro e w1 ⟨rfl, ⟨col1, oA1, oc1, hN1⟩, hb1⟩
    have HN1 := Lib.hid hN1
    have HB2 := Lib.hid hb1
    clear hN1 hb1
    go_wp2_with fail
    go_end0
    exact ⟨rfl, ⟨col1, oA1, oc1, _, by rw [HM.out]; rfl, HN1.out⟩, (bel_base HB1.out HBS.out).trans HB2.out⟩
  · rw [if_neg h1] at hMs
    have h1b : (mk == 1) = false := by rw [beq_eq_false_iff_ne]; exact h1
    by_cases h3 : mk = 3
    · rw [if_pos (.inl h3)] at hMs
      have HM := Lib.hid hMs
      clear hMs h1 h1b
      subst h3
      go_enter Tryz.func19, Tryz.ntmps19
      go_wp2_with fail
      refine (send_calls N1 (by omega) ⟨4, 0, ms, 0, 0, 0, 0, false, [], ByteArray.empty⟩ none 0 (Lib.hid ⟨Nat.le_refl _, RdZ.nil⟩)).mono ?_
      rintro e w1 ⟨rfl, ⟨col1, oA1, oc1, hN1⟩, hb1⟩
      have HN1 := Lib.hid hN1
      have HB2 := Lib.hid hb1
      clear hN1 hb1
      go_wp2_with fail
      go_end0
      exact ⟨rfl, ⟨col1, oA1, oc1, _, by rw [HM.out]; rfl, HN1.out⟩, (bel_base HB1.out HBS.out).trans HB2.out⟩
    · have h3b : (mk == 3) = false := by rw [beq_eq_false_iff_ne]; exact h3
      by_cases h5 : mk = 5
      · rw [if_pos (.inr h5)] at hMs
        have HM := Lib.hid hMs
        clear hMs h1 h1b h3 h3b
        subst h5
        go_enter Tryz.func19, Tryz.ntmps19
        go_wp2_with fail
        refine (send_calls N1 (by omega) ⟨4, 0, ms, 0, 0, 0, 0, false, [], ByteArray.empty⟩ none 0 (Lib.hid ⟨Nat.le_refl _, RdZ.nil⟩)).mono ?_
        rintro e w1 ⟨rfl, ⟨col1, oA1, oc1, hN1⟩, hb1⟩
        have HN1 := Lib.hid hN1
        have HB2 := Lib.hid hb1
        clear hN1 hb1
        go_wp2_with fail
        go_end0
        exact ⟨rfl, ⟨col1, oA1, oc1, _, by rw [HM.out]; rfl, HN1.out⟩, (bel_base HB1.out HBS.out).trans HB2.out⟩
      · rw [if_neg (fun h => h.elim h3 h5)] at hMs
        have h5b : (mk == 5) = false := by rw [beq_eq_false_iff_ne]; exact h5
        have HM := Lib.hid hMs
        clear hMs h1 h3 h5
        go_enter Tryz.func19, Tryz.ntmps19
        go_wp2_with fail
        go_end0
        exact ⟨rfl, ⟨col, x.oA, x.oc, [], by rw [HM.out]; rfl, by rw [List.append_nil]; exact N1.out⟩, bel_base HB1.out HBS.out⟩
end Go.Proofs.YtdladjgdhnkkcaaGreat
