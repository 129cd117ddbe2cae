
/-
  2 texts in one.
  Conditions: stated lemma by lemma.
-/
import Derived.Test.YtdladjgdhnkkcaaGreatZRf14
/-
  Contract: a whole state comes.
  Conditions: the node lies in memory and is right, the message may be.
-/
namespace Go.Proofs.YtdladjgdhnkkcaaGreat
open Go.RowKit
set_option linter.unusedVariables false
set_option linter.unusedSimpArgs false
set_option maxHeartbeats 20000000

theorem Run.logged {t : TypeId} {base g : Nat} {col : Nat → Nat} {r : Nod} {x : NdX} {L : List MsgV} {w w' : World} (h : Nd t base g col r x L w) (hb : Below w.heap.size w w') {A : Option Addr} {c : Nat} {es : List En} (b bt : Int) (hO : OwnE w' w.heap.size (.slice A es.length c) es) :
    Run t base g (recol col w.heap.size 0) { r with b := b, bt := bt, es := es } { x with eA := A, ec := c } L w' (nodeC r x L.length) w' :=
  ⟨h.ge, by rw [recol_old h.blk.lt]; exact h.gc, Nat.lt_of_lt_of_le h.blk.lt hb.size, h.blk.bel hb, h.rest.log hb b bt hO, Below.refl _ _, rfl⟩
theorem Run.logged0 {t : TypeId} {base g : Nat} {col : Nat → Nat} {r : Nod} {x : NdX} {L : List MsgV} {w : World} (h : Nd t base g col r x L w) (b bt : Int) :
    Run t base g col { r with b := b, bt := bt, es := [] } { x with eA := none, ec := 0 } L w (nodeC r x L.length) w :=
  ⟨h.ge, h.gc, h.blk.lt, h.blk, h.rest.log0 b bt, Below.refl _ _, rfl⟩

set_option maxRecDepth 20000 in
theorem bundle_calls {base g : Nat} {col : Nat → Nat} {r : Nod} {x : NdX} {L : List MsgV} {w : World} (H : Hid (Nd 53 base g col r x L w)) (hL : L.length ≤ 800) (hB : Hid (Rf.Base r)) (m : Msg) (hT : Hid (Rf.Takes r m)) (A : Option Addr) (cap : Nat) :
    Calls Tryz.prog 24 #[.pointer (some ⟨g, 0, none⟩), msgV m A cap] w (Led 53 base g (Rf.bundle r m).1 x L (Rf.bundle r m).2 w) := by
  obtain ⟨q, hq⟩ : ∃ q, q = Rf.bundle r m := ⟨_, rfl⟩
  rw [← hq]
  have HQ := Lib.hid hq
  unfold Rf.bundle Rf.bundle1 at HQ
  have hrim := Tr.chk_rim hB.out.trail
  have hi0 := hT.out.i0
  have hi1 := hT.out.i1
  have hlen : r.es.length ≤ 4096 := hrim.2.2.2.2.2.1
  have hb01 : 0 ≤ r.b ∧ r.b ≤ 1099511627776 := ⟨hrim.1, hrim.2.1⟩
  clear hq hrim
  obtain ⟨id, conf, term, vote, role, leader, b, bt, es, snap, commit, left, wait, votes, next, mtch⟩ := r
  obtain ⟨mk, ms, md, mt, mi, ml, mc, my, me, mdt⟩ := m
  obtain ⟨cA, cc, eA, ec, vA, vc, nA, nc, mA, mc0, oA, oc⟩ := x
  simp only at hi0 hi1 hlen hb01
  have HB1 := Lib.hid (bel_new (Below.refl w.heap.size w) (.cells #[.int .i64 mk, .int .i64 ms, .int .i64 md, .int .i64 mt, .int .i64 mi, .int .i64 ml, .int .i64 mc, .bool my, .slice A me.length cap, .string mdt] 30))
  have N1 := Lib.hid (H.out.bel HB1.out)
  have HM1 := Lib.hid (Blk.new w 30 #[.int .i64 mk, .int .i64 ms, .int .i64 md, .int .i64 mt, .int .i64 mi, .int .i64 ml, .int .i64 mc, .bool my, .slice A me.length cap, .string mdt])
  have HFO := Lib.hid (follow_calls14 N1 ⟨mk, ms, md, mt, mi, ml, mc, my, me, mdt⟩ A cap)
  have HMBG : Hid (w.heap.size ≠ g) := Lib.hid (by have := H.out.blk.lt; omega)
  obtain ⟨tm, htm⟩ : ∃ tm, tm = (if Tr.has b bt es mi = true then Tr.trm b bt es mi else 0) := ⟨_, rfl⟩
  obtain ⟨hs, hhs⟩ : ∃ hs, hs = Tr.has b bt es mi := ⟨_, rfl⟩
  have HTM := Lib.hid htm
  have HHS := Lib.hid hhs
  have HCH : Hid (Rf.cutHas (Rf.follow ⟨id, conf, term, vote, role, leader, b, bt, es, snap, commit, left, wait, votes, next, mtch⟩ ⟨mk, ms, md, mt, mi, ml, mc, my, me, mdt⟩) ⟨mk, ms, md, mt, mi, ml, mc, my, me, mdt⟩ = (hs && decide (tm = ml))) := Lib.hid (by rw [hhs, htm]; rfl)
  clear htm hhs
  go_enter Tryz.func24, Tryz.ntmps24
  go_wp2_with fail
  refine HFO.out.mono ?_
  rintro e w2 ⟨rfl, ⟨col2, hN2⟩, hb2, hal⟩
  have N2 : Hid (Nd 53 base g col2 ⟨id, conf, term, vote, 0, ms, b, bt, es, snap, commit, wait, wait, [], next, mtch⟩ ⟨cA, cc, eA, ec, none, 0, nA, nc, mA, mc0, oA, oc⟩ L w2) := Lib.hid hN2
  have HB2 := Lib.hid ((bel_base HB1.out H.out.rest.bs).trans hb2)
  have HM2 := Lib.hid (HM1.out.same (hal w.heap.size HM1.out.lt HMBG.out))
  have hcc : ∀ i, w2.cell? ⟨g, i, none⟩ = (#[.int .i64 id, .slice cA conf.length cc, .int .i64 term, .int .i64 vote, .int .i64 0, .int .i64 ms, .int .i64 b, .int .i64 bt, .slice eA es.length ec, .string snap, .int .i64 commit, .int .i64 wait, .int .i64 wait, .slice none 0 0, .slice nA next.length nc, .slice mA mtch.length mc0, .slice oA L.length oc] : Array Value)[i]? := N2.out.blk.cells
  have hmm : ∀ i, w2.cell? ⟨w.heap.size, i, none⟩ = (#[.int .i64 mk, .int .i64 ms, .int .i64 md, .int .i64 mt, .int .i64 mi, .int .i64 ml, .int .i64 mc, .bool my, .slice A me.length cap, .string mdt] : Array Value)[i]? := HM2.out.cells
  have HTC := Lib.hid (fun W (hR : RdE W eA es) => term2_calls b bt mi eA ec es W hR (by omega))
  rw [← HTM.out, ← HHS.out] at HTC
  clear hN2 hb2 HFO hal
  have hx1 : ¬ g = w.heap.size := fun e => HMBG.out e.symm
  have hx2 : ¬ w.heap.size = g := HMBG.out
  by_cases hci : commit < mi
  · go_wp2_with fail
    go_quiet (fail)
    have N3 := Lib.hid (N2.out.bel (bel_drewN (Below.refl w2.heap.size w2) nq))
    have HM3 := Lib.hid (HM2.out.bel (bel_drewN (Below.refl w2.heap.size w2) nq))
    have HB3 := Lib.hid (HB2.out.trans (bel_base (bel_drewN (Below.refl w2.heap.size w2) nq) N2.out.rest.bs))
    generalize w2.drewN nq = w3 at *
    have hcc3 : ∀ i, w3.cell? ⟨g, i, none⟩ = (#[.int .i64 id, .slice cA conf.length cc, .int .i64 term, .int .i64 vote, .int .i64 0, .int .i64 ms, .int .i64 b, .int .i64 bt, .slice eA es.length ec, .string snap, .int .i64 commit, .int .i64 wait, .int .i64 wait, .slice none 0 0, .slice nA next.length nc, .slice mA mtch.length mc0, .slice oA L.length oc] : Array Value)[i]? := N3.out.blk.cells
    have hmm3 : ∀ i, w3.cell? ⟨w.heap.size, i, none⟩ = (#[.int .i64 mk, .int .i64 ms, .int .i64 md, .int .i64 mt, .int .i64 mi, .int .i64 ml, .int .i64 mc, .bool my, .slice A me.length cap, .string mdt] : Array Value)[i]? := HM3.out.cells
    clear hcc hmm
    have HBZ := Lib.hid (bel_new (Below.refl w3.heap.size w3) (.cells #[.int .i64 mi, .int .i64 ml, .slice none 0 0] 25))
    have N4 := Lib.hid (N3.out.bel HBZ.out)
    have HM4 := Lib.hid (HM3.out.bel HBZ.out)
    have HZ4 := Lib.hid (Blk.new w3 25 #[.int .i64 mi, .int .i64 ml, .slice none 0 0])
    go_wp2_with fail
    generalize w3.alloc (.cells #[.int .i64 mi, .int .i64 ml, .slice none 0 0] 25) = w4 at *
    have SX : Sb w4 w4.drew := Below.drew (Below.refl _ _)
    have hne : Nonempty (InS (Sb w4)) := ⟨⟨_, SX⟩⟩
    have k0 : ∀ (z : InS (Sb w4)) i, z.val.cell? ⟨g, i, none⟩ = (#[.int .i64 id, .slice cA conf.length cc, .int .i64 term, .int .i64 vote, .int .i64 0, .int .i64 ms, .int .i64 b, .int .i64 bt, .slice eA es.length ec, .string snap, .int .i64 commit, .int .i64 wait, .int .i64 wait, .slice none 0 0, .slice nA next.length nc, .slice mA mtch.length mc0, .slice oA L.length oc] : Array Value)[i]? := N4.out.blk.ins
    have k1 : ∀ (z : InS (Sb w4)) i, z.val.cell? ⟨w.heap.size, i, none⟩ = (#[.int .i64 mk, .int .i64 ms, .int .i64 md, .int .i64 mt, .int .i64 mi, .int .i64 ml, .int .i64 mc, .bool my, .slice A me.length cap, .string mdt] : Array Value)[i]? := HM4.out.ins
    refine wp_region_in (Sb w4) (by kernel_rfl) (by kernel_rfl) SX ?_
    repeat (go_big_quiet_step ((first | (go_at_call 66; exact calls_in_bel (fun _ _ h k => bel_tr h k) (HTC.out _ (rdE_in N4.out.rest.es.rd _))))))
    first | refine wpQuiet_nil ?_ | go_big_quiet_step (fail)
    intro w5 hW
    have hs5 := in_ok hW
    have N5 := Lib.hid (N4.out.bel hs5)
    have HM5 := Lib.hid (HM4.out.bel hs5)
    have HZ5 := Lib.hid (HZ4.out.bel hs5)
    have HB53 := Lib.hid (bel_tr HBZ.out hs5)
    have hcc5 : ∀ i, w5.cell? ⟨g, i, none⟩ = (#[.int .i64 id, .slice cA conf.length cc, .int .i64 term, .int .i64 vote, .int .i64 0, .int .i64 ms, .int .i64 b, .int .i64 bt, .slice eA es.length ec, .string snap, .int .i64 commit, .int .i64 wait, .int .i64 wait, .slice none 0 0, .slice nA next.length nc, .slice mA mtch.length mc0, .slice oA L.length oc] : Array Value)[i]? := N5.out.blk.cells
    have hmm5 : ∀ i, w5.cell? ⟨w.heap.size, i, none⟩ = (#[.int .i64 mk, .int .i64 ms, .int .i64 md, .int .i64 mt, .int .i64 mi, .int .i64 ml, .int .i64 mc, .bool my, .slice A me.length cap, .string mdt] : Array Value)[i]? := HM5.out.cells
    have hzz5 : ∀ i, w5.cell? ⟨w3.heap.size, i, none⟩ = (#[.int .i64 mi, .int .i64 ml, .slice none 0 0] : Array Value)[i]? := HZ5.out.cells
    have hzf5 := HZ5.out.free
    have hgf5 := N5.out.blk.free
    have hg3 : ¬ g = w3.heap.size := by have := N3.out.blk.lt; omega
    have hm3 : ¬ w.heap.size = w3.heap.size := by have := HM3.out.lt; omega
    have hg3' : ¬ w3.heap.size = g := fun e => hg3 e.symm
    have HG3 := Lib.hid hg3
    have HMG3 := Lib.hid hm3
    clear hW hs5 k0 k1 SX hne hcc3 hmm3 HTC
    cases hs with
    | false =>
      have HF := Lib.hid (show q = (⟨id, conf, term, vote, 0, ms, mi, ml, [], mdt, mi, wait, wait, [], next, mtch⟩, [⟨4, id, ms, term, mi, 0, 0, true, [], ByteArray.empty⟩]) from by
        have hf : Rf.cutHas (Rf.follow ⟨id, conf, term, vote, role, leader, b, bt, es, snap, commit, left, wait, votes, next, mtch⟩ ⟨mk, ms, md, mt, mi, ml, mc, my, me, mdt⟩) ⟨mk, ms, md, mt, mi, ml, mc, my, me, mdt⟩ = false := by rw [HCH.out]; rfl
        rw [HQ.out, if_pos (show (Rf.follow ⟨id, conf, term, vote, role, leader, b, bt, es, snap, commit, left, wait, votes, next, mtch⟩ ⟨mk, ms, md, mt, mi, ml, mc, my, me, mdt⟩).commit < mi from hci), hf]
        rfl)
      go_wp2_with fail
      go_region
      all_goals
        have hR8 := ((((((Run.logged0 N5.out mi ml).set 9 (.string mdt)).set 6 (.int .i64 mi)).set 7 (.int .i64 ml)).set 8 (.slice none 0 0)).set 10 (.int .i64 mi)).nd ⟨id, conf, term, vote, 0, ms, mi, ml, [], mdt, mi, wait, wait, [], next, mtch⟩ (by simp only [nodeC, List.setIfInBounds_toArray, List.set_cons_succ, List.set_cons_zero, List.length_nil]) rfl rfl rfl rfl rfl
        have N8 := Lib.hid (hR8.bel (bel_drew (Below.refl _ _)))
        have HM8 := Lib.hid (((((((HM5.out).far (p := ⟨g, 9, none⟩) HMBG.out (.string mdt)).far (p := ⟨g, 6, none⟩) HMBG.out (.int .i64 mi)).far (p := ⟨g, 7, none⟩) HMBG.out (.int .i64 ml)).far (p := ⟨g, 8, none⟩) HMBG.out (.slice none 0 0)).far (p := ⟨g, 10, none⟩) HMBG.out (.int .i64 mi)).bel (bel_drew (Below.refl _ _)))
        have HB8 := Lib.hid (bel_drew ((((((HB3.out.trans (bel_base HB53.out N3.out.rest.bs)).setCell (p := ⟨g, 9, none⟩) H.out.ge (.string mdt)).setCell (p := ⟨g, 6, none⟩) H.out.ge (.int .i64 mi)).setCell (p := ⟨g, 7, none⟩) H.out.ge (.int .i64 ml)).setCell (p := ⟨g, 8, none⟩) H.out.ge (.slice none 0 0)).setCell (p := ⟨g, 10, none⟩) H.out.ge (.int .i64 mi)))
        clear hR8
        generalize (((((w5.setCell ⟨g, 9, none⟩ (.string mdt)).setCell ⟨g, 6, none⟩ (.int .i64 mi)).setCell ⟨g, 7, none⟩ (.int .i64 ml)).setCell ⟨g, 8, none⟩ (.slice none 0 0)).setCell ⟨g, 10, none⟩ (.int .i64 mi)).drew = w8 at *
        have SX : Sb w8 w8.drew := Below.drew (Below.refl _ _)
        have hne : Nonempty (InS (Sb w8)) := ⟨⟨_, SX⟩⟩
        have k0 : ∀ (z : InS (Sb w8)) i, z.val.cell? ⟨g, i, none⟩ = (#[.int .i64 id, .slice cA conf.length cc, .int .i64 term, .int .i64 vote, .int .i64 0, .int .i64 ms, .int .i64 mi, .int .i64 ml, .slice none 0 0, .string mdt, .int .i64 mi, .int .i64 wait, .int .i64 wait, .slice none 0 0, .slice nA next.length nc, .slice mA mtch.length mc0, .slice oA L.length oc] : Array Value)[i]? := N8.out.blk.ins
        have k1 : ∀ (z : InS (Sb w8)) i, z.val.cell? ⟨w.heap.size, i, none⟩ = (#[.int .i64 mk, .int .i64 ms, .int .i64 md, .int .i64 mt, .int .i64 mi, .int .i64 ml, .int .i64 mc, .bool my, .slice A me.length cap, .string mdt] : Array Value)[i]? := HM8.out.ins
        go_wp2_with fail
        refine wp_region_tail_in 9 (Sb w8) (by kernel_rfl) (by kernel_rfl) SX ?_
        simp only [List.take_succ_cons, List.take_zero, List.drop_succ_cons, List.drop_zero]
        repeat (go_big_quiet_step (fail))
        first | refine wpQuiet_nil ?_ | go_big_quiet_step (fail)
        intro W9 hW
        have hs9 := in_ok hW
        have N9 := Lib.hid (N8.out.bel hs9)
        have HB9 := Lib.hid (HB8.out.trans (bel_base hs9 N8.out.rest.bs))
        clear hW hs9 k0 k1 SX hne
        go_wp2_with fail
        refine (send_calls N9 (by omega) ⟨4, 0, ms, 0, mi, 0, 0, true, [], ByteArray.empty⟩ none 0 (Lib.hid ⟨Nat.le_refl _, RdZ.nil⟩)).mono ?_
        rintro e w10 ⟨rfl, ⟨col10, oA10, oc10, hN10⟩, hb10⟩
        have HN10 := Lib.hid hN10
        have HB10 := Lib.hid hb10
        clear hN10 hb10
        go_wp2_with fail
        go_end0
        rw [HF.out]
        exact ⟨rfl, ⟨col10, ⟨cA, cc, none, 0, none, 0, nA, nc, mA, mc0, oA10, oc10⟩, [⟨⟨4, id, ms, term, mi, 0, 0, true, [], ByteArray.empty⟩, none, 0⟩], rfl, rfl, rfl, HN10.out⟩, HB9.out.trans HB10.out⟩
    | true =>
      by_cases hte : tm = ml
      · have hteb : (tm == ml) = true := by rw [beq_iff_eq]; exact hte
        obtain ⟨es2, hes2⟩ : ∃ es2, es2 = es.drop (mi - b).toNat := ⟨_, rfl⟩
        have HCC : Hid (∀ W, RdE W eA es → Calls Tryz.prog 67 #[trV b bt eA es.length ec, .int .i64 mi] W fun e w' => (∃ A2 c2, e = .returned (.tuple #[trV mi ml A2 es2.length c2, .bool true]) ∧ OwnE w' W.heap.size (.slice A2 es2.length c2) es2) ∧ Below W.heap.size W w') := Lib.hid (fun W hR => (cut_calls b bt mi eA ec es W hR (by omega) N5.out.rest.es.le).mono fun e w' ⟨⟨v, h1, h2⟩, h3⟩ => by
          have hh : Tr.has b bt es mi = true := HHS.out.symm
          rw [if_pos hh, ← hes2, show Tr.trm b bt es mi = ml from by rw [← hte, HTM.out, if_pos hh]] at h2
          obtain ⟨A2, c2, e2, k1⟩ := h2
          exact ⟨⟨A2, c2, by rw [h1, e2], k1⟩, h3⟩)
        have HES2 := Lib.hid hes2
        have KK5 := Lib.hid (show w5.drew.cell? ⟨g, 6, none⟩ = some (.int .i64 b) ∧ w5.drew.cell? ⟨g, 7, none⟩ = some (.int .i64 bt) ∧ w5.drew.cell? ⟨g, 8, none⟩ = some (.slice eA es.length ec) ∧ w5.drew.cell? ⟨w.heap.size, 4, none⟩ = some (.int .i64 mi) from ⟨(N5.out.blk).cells 6, (N5.out.blk).cells 7, (N5.out.blk).cells 8, (HM5.out).cells 4⟩)
        clear hes2
        go_wp2_with fail
        go_region_held3 (fun W => W.cell? ⟨g, 6, none⟩ = some (.int .i64 b) ∧ W.cell? ⟨g, 7, none⟩ = some (.int .i64 bt) ∧ W.cell? ⟨g, 8, none⟩ = some (.slice eA es.length ec) ∧ W.cell? ⟨w.heap.size, 4, none⟩ = some (.int .i64 mi))
          (first | exact KK5.out | exact KK6.out | exact ⟨((((N6.out.blk.far HG3.out _).far HG3.out _).far HG3.out _)).cells 6, ((((N6.out.blk.far HG3.out _).far HG3.out _).far HG3.out _)).cells 7, ((((N6.out.blk.far HG3.out _).far HG3.out _).far HG3.out _)).cells 8, ((((HM6.out.far HMG3.out _).far HMG3.out _).far HMG3.out _)).cells 4⟩)
          (first
            | (go_at_call 67
               refine (HCC.out w5.drew N5.out.rest.es.rd).mono ?_
               rintro e w6 ⟨⟨A2, c2, rfl, k1⟩, hb6⟩
               have N6 := Lib.hid ((N5.out.bel (bel_drew (Below.refl _ _))).bel hb6)
               have HM6 := Lib.hid ((HM5.out.bel (bel_drew (Below.refl _ _))).bel hb6)
               have HZ6 := Lib.hid ((HZ5.out.bel (bel_drew (Below.refl _ _))).bel hb6)
               have HB6 := Lib.hid (bel_tr (bel_drew HB53.out) hb6)
               have KK6 := Lib.hid (show w6.cell? ⟨g, 6, none⟩ = some (.int .i64 b) ∧ w6.cell? ⟨g, 7, none⟩ = some (.int .i64 bt) ∧ w6.cell? ⟨g, 8, none⟩ = some (.slice eA es.length ec) ∧ w6.cell? ⟨w.heap.size, 4, none⟩ = some (.int .i64 mi) from ⟨(N6.out.blk).cells 6, (N6.out.blk).cells 7, (N6.out.blk).cells 8, (HM6.out).cells 4⟩)
               have hzc6 := HZ6.out.cells
               have hzf6 := HZ6.out.free
               have hsz6 : w3.heap.size < w5.drew.heap.size := HZ5.out.lt
               clear hb6))
        have HO7 := Lib.hid (OwnE.low (OwnE.set (OwnE.set (OwnE.set k1 hsz6 (i := 0) (u := .int .i64 mi)) hsz6 (i := 1) (u := .int .i64 ml)) hsz6 (i := 2) (u := .slice A2 es2.length c2)) (Nat.le_of_lt hsz6))
        have HB7 := Lib.hid (bel_set (bel_set (bel_set HB6.out (g := w3.heap.size) (Nat.le_refl _) 0 (.int .i64 mi)) (g := w3.heap.size) (Nat.le_refl _) 1 (.int .i64 ml)) (g := w3.heap.size) (Nat.le_refl _) 2 (.slice A2 es2.length c2))
        have N7 := Lib.hid (N3.out.bel HB7.out)
        have HM7 := Lib.hid (HM3.out.bel HB7.out)
        have HZ7 := Lib.hid (((HZ6.out.set 0 (.int .i64 mi)).set 1 (.int .i64 ml)).set 2 (.slice A2 es2.length c2))
        clear hcc5 hmm5 hzz5 hzf5 hgf5 hzc6 hzf6 k1 hsz6
        generalize ((w6.setCell ⟨w3.heap.size, 0, none⟩ (.int .i64 mi)).setCell ⟨w3.heap.size, 1, none⟩ (.int .i64 ml)).setCell ⟨w3.heap.size, 2, none⟩ (.slice A2 es2.length c2) = w7 at *
        have hcc7 : ∀ i, w7.cell? ⟨g, i, none⟩ = (#[.int .i64 id, .slice cA conf.length cc, .int .i64 term, .int .i64 vote, .int .i64 0, .int .i64 ms, .int .i64 b, .int .i64 bt, .slice eA es.length ec, .string snap, .int .i64 commit, .int .i64 wait, .int .i64 wait, .slice none 0 0, .slice nA next.length nc, .slice mA mtch.length mc0, .slice oA L.length oc] : Array Value)[i]? := N7.out.blk.cells
        have hmm7 : ∀ i, w7.cell? ⟨w.heap.size, i, none⟩ = (#[.int .i64 mk, .int .i64 ms, .int .i64 md, .int .i64 mt, .int .i64 mi, .int .i64 ml, .int .i64 mc, .bool my, .slice A me.length cap, .string mdt] : Array Value)[i]? := HM7.out.cells
        have hzz7 : ∀ i, w7.cell? ⟨w3.heap.size, i, none⟩ = (#[.int .i64 mi, .int .i64 ml, .slice A2 es2.length c2] : Array Value)[i]? := HZ7.out.cells
        have hzf7 := HZ7.out.free
        have hgf7 := N7.out.blk.free
        have HF := Lib.hid (show q = (⟨id, conf, term, vote, 0, ms, mi, ml, es2, mdt, mi, wait, wait, [], next, mtch⟩, [⟨4, id, ms, term, mi, 0, 0, true, [], ByteArray.empty⟩]) from by
          have hf : Rf.cutHas (Rf.follow ⟨id, conf, term, vote, role, leader, b, bt, es, snap, commit, left, wait, votes, next, mtch⟩ ⟨mk, ms, md, mt, mi, ml, mc, my, me, mdt⟩) ⟨mk, ms, md, mt, mi, ml, mc, my, me, mdt⟩ = true := by rw [HCH.out, decide_eq_true hte]; rfl
          rw [HES2.out, HQ.out, if_pos (show (Rf.follow ⟨id, conf, term, vote, role, leader, b, bt, es, snap, commit, left, wait, votes, next, mtch⟩ ⟨mk, ms, md, mt, mi, ml, mc, my, me, mdt⟩).commit < mi from hci), hf]
          rfl)
        go_wp2_with fail
        go_region
        all_goals
          have hR8 := ((((((Run.logged N3.out HB7.out mi ml HO7.out).set 9 (.string mdt)).set 6 (.int .i64 mi)).set 7 (.int .i64 ml)).set 8 (.slice A2 es2.length c2)).set 10 (.int .i64 mi)).nd ⟨id, conf, term, vote, 0, ms, mi, ml, es2, mdt, mi, wait, wait, [], next, mtch⟩ (by simp only [nodeC, List.setIfInBounds_toArray, List.set_cons_succ, List.set_cons_zero, List.length_nil]) rfl rfl rfl rfl rfl
          have N8 := Lib.hid (hR8.bel (bel_drew (Below.refl _ _)))
          have HM8 := Lib.hid (((((((HM7.out).far (p := ⟨g, 9, none⟩) HMBG.out (.string mdt)).far (p := ⟨g, 6, none⟩) HMBG.out (.int .i64 mi)).far (p := ⟨g, 7, none⟩) HMBG.out (.int .i64 ml)).far (p := ⟨g, 8, none⟩) HMBG.out (.slice A2 es2.length c2)).far (p := ⟨g, 10, none⟩) HMBG.out (.int .i64 mi)).bel (bel_drew (Below.refl _ _)))
          have HB8 := Lib.hid (bel_drew ((((((HB3.out.trans (bel_base HB7.out N3.out.rest.bs)).setCell (p := ⟨g, 9, none⟩) H.out.ge (.string mdt)).setCell (p := ⟨g, 6, none⟩) H.out.ge (.int .i64 mi)).setCell (p := ⟨g, 7, none⟩) H.out.ge (.int .i64 ml)).setCell (p := ⟨g, 8, none⟩) H.out.ge (.slice A2 es2.length c2)).setCell (p := ⟨g, 10, none⟩) H.out.ge (.int .i64 mi)))
          clear hR8
          generalize (((((w7.setCell ⟨g, 9, none⟩ (.string mdt)).setCell ⟨g, 6, none⟩ (.int .i64 mi)).setCell ⟨g, 7, none⟩ (.int .i64 ml)).setCell ⟨g, 8, none⟩ (.slice A2 es2.length c2)).setCell ⟨g, 10, none⟩ (.int .i64 mi)).drew = w8 at *
          have SX : Sb w8 w8.drew := Below.drew (Below.refl _ _)
          have hne : Nonempty (InS (Sb w8)) := ⟨⟨_, SX⟩⟩
          have k0 : ∀ (z : InS (Sb w8)) i, z.val.cell? ⟨g, i, none⟩ = (#[.int .i64 id, .slice cA conf.length cc, .int .i64 term, .int .i64 vote, .int .i64 0, .int .i64 ms, .int .i64 mi, .int .i64 ml, .slice A2 es2.length c2, .string mdt, .int .i64 mi, .int .i64 wait, .int .i64 wait, .slice none 0 0, .slice nA next.length nc, .slice mA mtch.length mc0, .slice oA L.length oc] : Array Value)[i]? := N8.out.blk.ins
          have k1 : ∀ (z : InS (Sb w8)) i, z.val.cell? ⟨w.heap.size, i, none⟩ = (#[.int .i64 mk, .int .i64 ms, .int .i64 md, .int .i64 mt, .int .i64 mi, .int .i64 ml, .int .i64 mc, .bool my, .slice A me.length cap, .string mdt] : Array Value)[i]? := HM8.out.ins
          go_wp2_with fail
          refine wp_region_tail_in 9 (Sb w8) (by kernel_rfl) (by kernel_rfl) SX ?_
          simp only [List.take_succ_cons, List.take_zero, List.drop_succ_cons, List.drop_zero]
          repeat (go_big_quiet_step (fail))
          first | refine wpQuiet_nil ?_ | go_big_quiet_step (fail)
          intro W9 hW
          have hs9 := in_ok hW
          have N9 := Lib.hid (N8.out.bel hs9)
          have HB9 := Lib.hid (HB8.out.trans (bel_base hs9 N8.out.rest.bs))
          clear hW hs9 k0 k1 SX hne
          go_wp2_with fail
          refine (send_calls N9 (by omega) ⟨4, 0, ms, 0, mi, 0, 0, true, [], ByteArray.empty⟩ none 0 (Lib.hid ⟨Nat.le_refl _, RdZ.nil⟩)).mono ?_
          rintro e w10 ⟨rfl, ⟨col10, oA10, oc10, hN10⟩, hb10⟩
          have HN10 := Lib.hid hN10
          have HB10 := Lib.hid hb10
          clear hN10 hb10
          go_wp2_with fail
          go_end0
          rw [HF.out]
          exact ⟨rfl, ⟨col10, ⟨cA, cc, A2, c2, none, 0, nA, nc, mA, mc0, oA10, oc10⟩, [⟨⟨4, id, ms, term, mi, 0, 0, true, [], ByteArray.empty⟩, none, 0⟩], rfl, rfl, rfl, HN10.out⟩, HB9.out.trans HB10.out⟩
      · have hteb : (tm == ml) = false := by rw [beq_eq_false_iff_ne]; exact hte
        have HF := Lib.hid (show q = (⟨id, conf, term, vote, 0, ms, mi, ml, [], mdt, mi, wait, wait, [], next, mtch⟩, [⟨4, id, ms, term, mi, 0, 0, true, [], ByteArray.empty⟩]) from by
          have hf : Rf.cutHas (Rf.follow ⟨id, conf, term, vote, role, leader, b, bt, es, snap, commit, left, wait, votes, next, mtch⟩ ⟨mk, ms, md, mt, mi, ml, mc, my, me, mdt⟩) ⟨mk, ms, md, mt, mi, ml, mc, my, me, mdt⟩ = false := by rw [HCH.out]; rw [decide_eq_false hte]; rfl
          rw [HQ.out, if_pos (show (Rf.follow ⟨id, conf, term, vote, role, leader, b, bt, es, snap, commit, left, wait, votes, next, mtch⟩ ⟨mk, ms, md, mt, mi, ml, mc, my, me, mdt⟩).commit < mi from hci), hf]
          rfl)
        go_wp2_with fail
        go_region
        all_goals
          have hR8 := ((((((Run.logged0 N5.out mi ml).set 9 (.string mdt)).set 6 (.int .i64 mi)).set 7 (.int .i64 ml)).set 8 (.slice none 0 0)).set 10 (.int .i64 mi)).nd ⟨id, conf, term, vote, 0, ms, mi, ml, [], mdt, mi, wait, wait, [], next, mtch⟩ (by simp only [nodeC, List.setIfInBounds_toArray, List.set_cons_succ, List.set_cons_zero, List.length_nil]) rfl rfl rfl rfl rfl
          have N8 := Lib.hid (hR8.bel (bel_drew (Below.refl _ _)))
          have HM8 := Lib.hid (((((((HM5.out).far (p := ⟨g, 9, none⟩) HMBG.out (.string mdt)).far (p := ⟨g, 6, none⟩) HMBG.out (.int .i64 mi)).far (p := ⟨g, 7, none⟩) HMBG.out (.int .i64 ml)).far (p := ⟨g, 8, none⟩) HMBG.out (.slice none 0 0)).far (p := ⟨g, 10, none⟩) HMBG.out (.int .i64 mi)).bel (bel_drew (Below.refl _ _)))
          have HB8 := Lib.hid (bel_drew ((((((HB3.out.trans (bel_base HB53.out N3.out.rest.bs)).setCell (p := ⟨g, 9, none⟩) H.out.ge (.string mdt)).setCell (p := ⟨g, 6, none⟩) H.out.ge (.int .i64 mi)).setCell (p := ⟨g, 7, none⟩) H.out.ge (.int .i64 ml)).setCell (p := ⟨g, 8, none⟩) H.out.ge (.slice none 0 0)).setCell (p := ⟨g, 10, none⟩) H.out.ge (.int .i64 mi)))
          clear hR8
          generalize (((((w5.setCell ⟨g, 9, none⟩ (.string mdt)).setCell ⟨g, 6, none⟩ (.int .i64 mi)).setCell ⟨g, 7, none⟩ (.int .i64 ml)).setCell ⟨g, 8, none⟩ (.slice none 0 0)).setCell ⟨g, 10, none⟩ (.int .i64 mi)).drew = w8 at *
          have SX : Sb w8 w8.drew := Below.drew (Below.refl _ _)
          have hne : Nonempty (InS (Sb w8)) := ⟨⟨_, SX⟩⟩
          have k0 : ∀ (z : InS (Sb w8)) i, z.val.cell? ⟨g, i, none⟩ = (#[.int .i64 id, .slice cA conf.length cc, .int .i64 term, .int .i64 vote, .int .i64 0, .int .i64 ms, .int .i64 mi, .int .i64 ml, .slice none 0 0, .string mdt, .int .i64 mi, .int .i64 wait, .int .i64 wait, .slice none 0 0, .slice nA next.length nc, .slice mA mtch.length mc0, .slice oA L.length oc] : Array Value)[i]? := N8.out.blk.ins
          have k1 : ∀ (z : InS (Sb w8)) i, z.val.cell? ⟨w.heap.size, i, none⟩ = (#[.int .i64 mk, .int .i64 ms, .int .i64 md, .int .i64 mt, .int .i64 mi, .int .i64 ml, .int .i64 mc, .bool my, .slice A me.length cap, .string mdt] : Array Value)[i]? := HM8.out.ins
          go_wp2_with fail
          refine wp_region_tail_in 9 (Sb w8) (by kernel_rfl) (by kernel_rfl) SX ?_
          simp only [List.take_succ_cons, List.take_zero, List.drop_succ_cons, List.drop_zero]
          repeat (go_big_quiet_step (fail))
          first | refine wpQuiet_nil ?_ | go_big_quiet_step (fail)
          intro W9 hW
          have hs9 := in_ok hW
          have N9 := Lib.hid (N8.out.bel hs9)
          have HB9 := Lib.hid (HB8.out.trans (bel_base hs9 N8.out.rest.bs))
          clear hW hs9 k0 k1 SX hne
          go_wp2_with fail
          refine (send_calls N9 (by omega) ⟨4, 0, ms, 0, mi, 0, 0, true, [], ByteArray.empty⟩ none 0 (Lib.hid ⟨Nat.le_refl _, RdZ.nil⟩)).mono ?_
          rintro e w10 ⟨rfl, ⟨col10, oA10, oc10, hN10⟩, hb10⟩
          have HN10 := Lib.hid hN10
          have HB10 := Lib.hid hb10
          clear hN10 hb10
          go_wp2_with fail
          go_end0
          rw [HF.out]
          exact ⟨rfl, ⟨col10, ⟨cA, cc, none, 0, none, 0, nA, nc, mA, mc0, oA10, oc10⟩, [⟨⟨4, id, ms, term, mi, 0, 0, true, [], ByteArray.empty⟩, none, 0⟩], rfl, rfl, rfl, HN10.out⟩, HB9.out.trans HB10.out⟩
  · have HF := Lib.hid (show q = (⟨id, conf, term, vote, 0, ms, b, bt, es, snap, commit, wait, wait, [], next, mtch⟩, [⟨4, id, ms, term, commit, 0, 0, true, [], ByteArray.empty⟩]) from by rw [HQ.out, if_neg (show ¬ (Rf.follow ⟨id, conf, term, vote, role, leader, b, bt, es, snap, commit, left, wait, votes, next, mtch⟩ ⟨mk, ms, md, mt, mi, ml, mc, my, me, mdt⟩).commit < mi from hci)]; rfl)
    go_wp2_with fail
    go_quiet (fail)
    have N3 := Lib.hid (N2.out.bel (bel_drewN (Below.refl w2.heap.size w2) nq))
    have HM3 := Lib.hid (HM2.out.bel (bel_drewN (Below.refl w2.heap.size w2) nq))
    have HB3 := Lib.hid (HB2.out.trans (bel_base (bel_drewN (Below.refl w2.heap.size w2) nq) N2.out.rest.bs))
    generalize w2.drewN nq = w3 at *
    clear hcc hmm
    have SX : Sb w3 w3.drew := Below.drew (Below.refl _ _)
    have hne : Nonempty (InS (Sb w3)) := ⟨⟨_, SX⟩⟩
    have k0 : ∀ (z : InS (Sb w3)) i, z.val.cell? ⟨g, i, none⟩ = (#[.int .i64 id, .slice cA conf.length cc, .int .i64 term, .int .i64 vote, .int .i64 0, .int .i64 ms, .int .i64 b, .int .i64 bt, .slice eA es.length ec, .string snap, .int .i64 commit, .int .i64 wait, .int .i64 wait, .slice none 0 0, .slice nA next.length nc, .slice mA mtch.length mc0, .slice oA L.length oc] : Array Value)[i]? := N3.out.blk.ins
    have k1 : ∀ (z : InS (Sb w3)) i, z.val.cell? ⟨w.heap.size, i, none⟩ = (#[.int .i64 mk, .int .i64 ms, .int .i64 md, .int .i64 mt, .int .i64 mi, .int .i64 ml, .int .i64 mc, .bool my, .slice A me.length cap, .string mdt] : Array Value)[i]? := HM3.out.ins
    go_wp2_with fail
    refine wp_region_tail_in 9 (Sb w3) (by kernel_rfl) (by kernel_rfl) SX ?_
    simp only [List.take_succ_cons, List.take_zero, List.drop_succ_cons, List.drop_zero]
    repeat (go_big_quiet_step (fail))
    first | refine wpQuiet_nil ?_ | go_big_quiet_step (fail)
    intro W9 hW
    have hs9 := in_ok hW
    have N9 := Lib.hid (N3.out.bel hs9)
    have HB9 := Lib.hid (HB3.out.trans (bel_base hs9 N3.out.rest.bs))
    clear hW hs9 k0 k1 SX hne
    go_wp2_with fail
    refine (send_calls N9 (by omega) ⟨4, 0, ms, 0, commit, 0, 0, true, [], ByteArray.empty⟩ none 0 (Lib.hid ⟨Nat.le_refl _, RdZ.nil⟩)).mono ?_
    rintro e w10 ⟨rfl, ⟨col10, oA10, oc10, hN10⟩, hb10⟩
    have HN10 := Lib.hid hN10
    have HB10 := Lib.hid hb10
    clear hN10 hb10
    go_wp2_with fail
    go_end0
    rw [HF.out]
    exact ⟨rfl, ⟨col10, ⟨cA, cc, eA, ec, none, 0, nA, nc, mA, mc0, oA10, oc10⟩, [⟨⟨4, id, ms, term, commit, 0, 0, true, [], ByteArray.empty⟩, none, 0⟩], rfl, rfl, rfl, HN10.out⟩, HB9.out.trans HB10.out⟩
end Go.Proofs.YtdladjgdhnkkcaaGreat

/-
  Contract: an answer comes.
  Conditions: the node lies in memory and is right, the message may be.
-/
namespace Go.Proofs.YtdladjgdhnkkcaaGreat
open Go.RowKit
set_option linter.unusedVariables false
set_option linter.unusedSimpArgs false
set_option maxHeartbeats 20000000

theorem cell_in {w1 : World} {p : Addr} {v : Value} (h : w1.cell? p = some v) (z : InS (Sb w1)) : z.val.cell? p = some v := (z.ok.cell (World.block_lt_of_cell? w1 p h)).trans h

set_option maxRecDepth 20000 in
theorem ack_calls {base g : Nat} {col : Nat → Nat} {r : Nod} {x : NdX} {L : List MsgV} {w : World} (H : Hid (Nd 53 base g col r x L w)) (hL : L.length ≤ 800) (hB : Hid (Rf.Base r)) (hR : Hid (r.role = 2 → Rf.Lead r)) (m : Msg) (hT : Hid (Rf.Takes r m)) (A : Option Addr) (cap : Nat) :
    Calls Tryz.prog 22 #[.pointer (some ⟨g, 0, none⟩), msgV m A cap] w (Led 53 base g (Rf.ack r m).1 x L (Rf.ack r m).2 w) := by
  obtain ⟨q, hq⟩ : ∃ q, q = Rf.ack r m := ⟨_, rfl⟩
  rw [← hq]
  have HQ := Lib.hid hq
  unfold Rf.ack at HQ
  have hrim := Tr.chk_rim hB.out.trail
  have hln : Rf.lastN r = r.b + r.es.length := by unfold Rf.lastN; exact Rf.lastN_eq hB.out.trail
  have hi0 := hT.out.i0
  have hi1 := hT.out.i1
  have hlen : r.es.length ≤ 4096 := hrim.2.2.2.2.2.1
  have hb01 : 0 ≤ r.b ∧ r.b + r.es.length ≤ 1099511627776 := ⟨hrim.1, hrim.2.2.2.2.2.2⟩
  have hca := Qm.chk_asc hB.out.conf
  have hn7 : r.conf.length ≤ 7 := hca.2.2
  have hj := Rf.idx_lt hT.out.mem
  clear hq hrim hca
  by_cases hrole : r.role = 2
  · have hld := hR.out hrole
    have hnum := hld.nums _ hj
    obtain ⟨mb, hmA, hgm, hml, hmb, hmc⟩ := H.out.mtch_blk (by have := hld.mtch; omega)
    obtain ⟨nb, hnA, hgn, hnl, hnb, hnc⟩ := H.out.next_blk (by have := hld.next; omega)
    obtain ⟨cb, co, hcA, hcl, _⟩ := H.out.conf_at 0 (by omega)
    have hnL := hld.next
    have hmL := hld.mtch
    have HLD := Lib.hid hld
    have HMEM := Lib.hid hT.out.mem
    clear hld
    obtain ⟨id, conf, term, vote, role, leader, b, bt, es, snap, commit, left, wait, votes, next, mtch⟩ := r
    obtain ⟨mk, ms, md, mt, mi, ml, mc, my, me, mdt⟩ := m
    obtain ⟨cA, cc, eA, ec, vA, vc, nA, nc, mA, mc0, oA, oc⟩ := x
    simp only at hi0 hi1 hlen hb01 hn7 hj hrole hnum hmA hnA hcA hnL hmL hln
    subst hrole; subst hmA; subst hnA; subst hcA
    have HIX := Lib.hid (fun W (hR : Hid (RdI W (some ⟨cb, co, none⟩) conf)) => index2_calls (some ⟨cb, co, none⟩) cc conf ms W hR (by omega) HMEM)
    generalize Rf.idx ms conf = j at *
    obtain ⟨ln, hlnv⟩ : ∃ ln, ln = Rf.lastN (⟨id, conf, term, vote, 2, leader, b, bt, es, snap, commit, left, wait, votes, next, mtch⟩ : Nod) := ⟨_, rfl⟩
    rw [← hlnv] at hln
    have HLN := Lib.hid hlnv
    have HLC := Lib.hid (fun W (h : Hid (Nd 53 base g col ⟨id, conf, term, vote, 2, leader, b, bt, es, snap, commit, left, wait, votes, next, mtch⟩ ⟨some ⟨cb, co, none⟩, cc, eA, ec, vA, vc, some ⟨nb, 0, none⟩, nc, some ⟨mb, 0, none⟩, mc0, oA, oc⟩ L W)) => nlast_calls h hlen)
    rw [← hlnv] at HLC
    have HB1 := Lib.hid (bel_new (Below.refl w.heap.size w) (.cells #[.int .i64 mk, .int .i64 ms, .int .i64 md, .int .i64 mt, .int .i64 mi, .int .i64 ml, .int .i64 mc, .bool my, .slice A me.length cap, .string mdt] 30))
    have N1 := Lib.hid (H.out.bel HB1.out)
    have HM1 := Lib.hid (Blk.new w 30 #[.int .i64 mk, .int .i64 ms, .int .i64 md, .int .i64 mt, .int .i64 mi, .int .i64 ml, .int .i64 mc, .bool my, .slice A me.length cap, .string mdt])
    have HMBG : Hid (w.heap.size ≠ g) := Lib.hid (by have := H.out.blk.lt; omega)
    have j1 : (j : Int) < (mtch.length : Int) := by omega
    have j2 : (j : Int) < (next.length : Int) := by omega
    have HB1b := Lib.hid (bel_base HB1.out H.out.rest.bs)
    clear hlnv
    go_enter Tryz.func22, Tryz.ntmps22
    go_wp2_with fail
    generalize w.alloc (.cells #[.int .i64 mk, .int .i64 ms, .int .i64 md, .int .i64 mt, .int .i64 mi, .int .i64 ml, .int .i64 mc, .bool my, .slice A me.length cap, .string mdt] 30) = w1 at *
    have SX : Sb w1 w1.drew := Below.drew (Below.refl _ _)
    have hne : Nonempty (InS (Sb w1)) := ⟨⟨_, SX⟩⟩
    have k0 : ∀ (z : InS (Sb w1)) i, z.val.cell? ⟨g, i, none⟩ = (#[.int .i64 id, .slice (some ⟨cb, co, none⟩) conf.length cc, .int .i64 term, .int .i64 vote, .int .i64 2, .int .i64 leader, .int .i64 b, .int .i64 bt, .slice eA es.length ec, .string snap, .int .i64 commit, .int .i64 left, .int .i64 wait, .slice vA votes.length vc, .slice (some ⟨nb, 0, none⟩) next.length nc, .slice (some ⟨mb, 0, none⟩) mtch.length mc0, .slice oA L.length oc] : Array Value)[i]? := N1.out.blk.ins
    have k1 : ∀ (z : InS (Sb w1)) i, z.val.cell? ⟨w.heap.size, i, none⟩ = (#[.int .i64 mk, .int .i64 ms, .int .i64 md, .int .i64 mt, .int .i64 mi, .int .i64 ml, .int .i64 mc, .bool my, .slice A me.length cap, .string mdt] : Array Value)[i]? := HM1.out.ins
    refine wp_region_in (Sb w1) (by kernel_rfl) (by kernel_rfl) SX ?_
    repeat (go_big_quiet_step ((first | (go_at_call 60; exact calls_in_bel (fun _ _ h k => bel_tr h k) (HLC.out _ (Lib.hid (N1.out.ins _)))))))
    first | refine wpQuiet_nil ?_ | go_big_quiet_step (fail)
    intro w2 hW
    have hs2 := in_ok hW
    have N2 := Lib.hid (N1.out.bel hs2)
    have HM2 := Lib.hid (HM1.out.bel hs2)
    have HB2 := Lib.hid (HB1b.out.trans (bel_base hs2 N1.out.rest.bs))
    have hcc2 : ∀ i, w2.cell? ⟨g, i, none⟩ = (#[.int .i64 id, .slice (some ⟨cb, co, none⟩) conf.length cc, .int .i64 term, .int .i64 vote, .int .i64 2, .int .i64 leader, .int .i64 b, .int .i64 bt, .slice eA es.length ec, .string snap, .int .i64 commit, .int .i64 left, .int .i64 wait, .slice vA votes.length vc, .slice (some ⟨nb, 0, none⟩) next.length nc, .slice (some ⟨mb, 0, none⟩) mtch.length mc0, .slice oA L.length oc] : Array Value)[i]? := N2.out.blk.cells
    have hmm2 : ∀ i, w2.cell? ⟨w.heap.size, i, none⟩ = (#[.int .i64 mk, .int .i64 ms, .int .i64 md, .int .i64 mt, .int .i64 mi, .int .i64 ml, .int .i64 mc, .bool my, .slice A me.length cap, .string mdt] : Array Value)[i]? := HM2.out.cells
    clear hW hs2 k0 k1 SX hne
    by_cases hbig : ln < mi
    · have HF := Lib.hid (show q = (⟨id, conf, term, vote, 2, leader, b, bt, es, snap, commit, left, wait, votes, next, mtch⟩, []) from by rw [HQ.out, if_pos (.inr (by rw [← HLN.out]; exact hbig))])
      go_wp2_with fail
      go_end0
      rw [HF.out]
      exact ⟨rfl, ⟨col, _, [], rfl, rfl, rfl, by rw [List.append_nil]; exact N2.out⟩, HB2.out⟩
    · have HQ2 := Lib.hid (HQ.out.trans (if_neg (fun h => h.elim (fun h => h rfl) (fun h => hbig (by rw [HLN.out]; exact h)))))
      have hsm : mi ≤ ln := by omega
      go_wp2_with fail
      have HCR := Lib.hid (N2.out.conf_rd.1)
      go_quiet ((go_at_call 61; exact quiet_of_eq (HIX.out _ (Lib.hid (HCR.out.bel (bel_drewN (Below.refl _ _) _))))))
      have N3 := Lib.hid (N2.out.bel (bel_drewN (Below.refl w2.heap.size w2) nq))
      have HM3 := Lib.hid (HM2.out.bel (bel_drewN (Below.refl w2.heap.size w2) nq))
      have HB3 := Lib.hid (HB2.out.trans (bel_base (bel_drewN (Below.refl w2.heap.size w2) nq) N2.out.rest.bs))
      generalize w2.drewN nq = w3 at *
      clear hcc2 hmm2 HCR
      have hmm3 : ∀ i, w3.cell? ⟨w.heap.size, i, none⟩ = (#[.int .i64 mk, .int .i64 ms, .int .i64 md, .int .i64 mt, .int .i64 mi, .int .i64 ml, .int .i64 mc, .bool my, .slice A me.length cap, .string mdt] : Array Value)[i]? := HM3.out.cells
      obtain ⟨hmc1, hmc2⟩ := N3.out.mtch_cell rfl j (show j < mtch.length by omega)
      obtain ⟨hnc1, hnc2⟩ := N3.out.next_cell rfl j (show j < next.length by omega)
      simp only at hmc1 hnc1
      obtain ⟨mx, hmx⟩ : ∃ mx, mx = mtch.getD j 0 := ⟨_, rfl⟩
      obtain ⟨nx, hnx⟩ : ∃ nx, nx = next.getD j 0 := ⟨_, rfl⟩
      rw [← hmx] at hmc1 hnum
      rw [← hnx] at hnc1 hnum
      rw [← hln] at hnum
      have HMX := Lib.hid hmx
      have HNX := Lib.hid hnx
      have hw1 : IntKind.i64.wrap (mi + 1) = mi + 1 := IntWalk.i64_in _ (by omega)
      have hw2 : IntKind.i64.wrap (nx - 1) = nx - 1 := IntWalk.i64_in _ (by omega)
      have hw3 : IntKind.i64.wrap (mx + 1) = mx + 1 := IntWalk.i64_in _ (by omega)
      have SX : Sb w3 w3.drew := Below.drew (Below.refl _ _)
      have hne : Nonempty (InS (Sb w3)) := ⟨⟨_, SX⟩⟩
      have k0 : ∀ (z : InS (Sb w3)) i, z.val.cell? ⟨g, i, none⟩ = (#[.int .i64 id, .slice (some ⟨cb, co, none⟩) conf.length cc, .int .i64 term, .int .i64 vote, .int .i64 2, .int .i64 leader, .int .i64 b, .int .i64 bt, .slice eA es.length ec, .string snap, .int .i64 commit, .int .i64 left, .int .i64 wait, .slice vA votes.length vc, .slice (some ⟨nb, 0, none⟩) next.length nc, .slice (some ⟨mb, 0, none⟩) mtch.length mc0, .slice oA L.length oc] : Array Value)[i]? := N3.out.blk.ins
      have k1 : ∀ (z : InS (Sb w3)) i, z.val.cell? ⟨w.heap.size, i, none⟩ = (#[.int .i64 mk, .int .i64 ms, .int .i64 md, .int .i64 mt, .int .i64 mi, .int .i64 ml, .int .i64 mc, .bool my, .slice A me.length cap, .string mdt] : Array Value)[i]? := HM3.out.ins
      have k2 : ∀ (z : InS (Sb w3)), z.val.cell? ⟨mb, j, none⟩ = some (.int .i64 mx) := cell_in hmc1
      have k3 : ∀ (z : InS (Sb w3)), z.val.cell? ⟨nb, j, none⟩ = some (.int .i64 nx) := cell_in hnc1
      have HFX : Hid (∀ i, i < conf.length → next.getD i 0 ≤ 9223372036854775807) := Lib.hid (fun i hi => by have := (HLD.out.nums i hi).2.2.2; simp only at this; omega)
      clear hmx hnx hmc1 hnc1 hmc2 hnc2
      cases my with
      | false =>
        obtain ⟨nv, hnv⟩ : ∃ nv, nv = max (min (mi + 1) (nx - 1)) (mx + 1) := ⟨_, rfl⟩
        have HNV := Lib.hid hnv
        have HF := Lib.hid (show q = (⟨id, conf, term, vote, 2, leader, b, bt, es, snap, commit, left, wait, votes, next.set j nv, mtch⟩, [Rf.push ⟨id, conf, term, vote, 2, leader, b, bt, es, snap, commit, left, wait, votes, next.set j nv, mtch⟩ j]) from by rw [HQ2.out, hnv, HMX.out, HNX.out]; rfl)
        have hnvb : nv ≤ 9223372036854775807 := by rw [hnv]; omega
        clear hnv
        go_wp2_with fail
        refine wp_region_tail_in 30 (Sb w3) (by kernel_rfl) (by kernel_rfl) SX ?_
        simp only [List.take_succ_cons, List.take_zero, List.drop_succ_cons, List.drop_zero]
        repeat (go_big_quiet_step (fail))
        first | refine wpQuiet_nil ?_ | go_big_quiet_step (fail)
        intro w4 hW
        have hs9 := in_ok hW
        have N4 := Lib.hid (N3.out.bel hs9)
        have HB4 := Lib.hid (HB3.out.trans (bel_base hs9 N3.out.rest.bs))
        obtain ⟨n1, n2⟩ := N4.out.next_cell rfl j (show j < next.length by omega)
        simp only at n1
        clear hW hs9 k0 k1 k2 k3 SX hne
        go_wp2_with fail
        try rw [show max (min (mi + 1) (nx - 1)) (mx + 1) = nv from HNV.out.symm]
        have N5 := Lib.hid (N4.out.next_set rfl j (show j < next.length by omega) nv)
        have HB5 := Lib.hid (HB4.out.setCell (p := ⟨nb, j, none⟩) hnb (.int .i64 nv))
        refine (push_calls N5 (by omega) j (show j < conf.length by omega) hn7 (by simp only [List.length_set]; omega) hb01.1 hlen (by simp only; rw [Rf.set_get _ _ _ _ (by omega), if_pos rfl]; exact hnvb)).mono ?_
        intro e w6 hp
        have HP := Lib.hid hp
        obtain ⟨_, _, rfl, _, _⟩ := hp
        go_wp2_with fail
        go_end0
        rw [HF.out]
        obtain ⟨A6, c6, _, ⟨col6, oA6, oc6, hN6⟩, hb6⟩ := HP.out
        exact ⟨rfl, ⟨col6, ⟨some ⟨cb, co, none⟩, cc, eA, ec, vA, vc, some ⟨nb, 0, none⟩, nc, some ⟨mb, 0, none⟩, mc0, oA6, oc6⟩, [⟨_, A6, c6⟩], rfl, rfl, rfl, hN6⟩, HB5.out.trans hb6⟩
      | true =>
        obtain ⟨v1, hv1⟩ : ∃ v1, v1 = max mx mi := ⟨_, rfl⟩
        have HV1 := Lib.hid hv1
        have hv1b : 0 ≤ v1 ∧ v1 ≤ 1099511627776 := by rw [hv1]; omega
        have hq3 : q = (Rf.agree ⟨id, conf, term, vote, 2, leader, b, bt, es, snap, commit, left, wait, votes, next.set j (v1 + 1), mtch.set j v1⟩, if v1 + 1 ≤ ln then [Rf.push (Rf.agree ⟨id, conf, term, vote, 2, leader, b, bt, es, snap, commit, left, wait, votes, next.set j (v1 + 1), mtch.set j v1⟩) j] else []) := by
          have e0 : Rf.ack1 (⟨id, conf, term, vote, 2, leader, b, bt, es, snap, commit, left, wait, votes, next, mtch⟩ : Nod) ⟨mk, ms, md, mt, mi, ml, mc, true, me, mdt⟩ j = ⟨id, conf, term, vote, 2, leader, b, bt, es, snap, commit, left, wait, votes, next.set j (v1 + 1), mtch.set j v1⟩ := by rw [hv1, HMX.out]; rfl
          rw [HQ2.out]
          simp only [if_true]
          rw [e0, ← HLN.out]
          simp only
          rw [Rf.set_get _ _ _ _ (by omega), if_pos rfl]
        have HQ3 := Lib.hid hq3
        have hw4 : IntKind.i64.wrap (v1 + 1) = v1 + 1 := IntWalk.i64_in _ (by omega)
        clear hv1 hq3
        go_wp2_with fail
        refine wp_region_tail_in 18 (Sb w3) (by kernel_rfl) (by kernel_rfl) SX ?_
        simp only [List.take_succ_cons, List.take_zero, List.drop_succ_cons, List.drop_zero]
        repeat (go_big_quiet_step (fail))
        first | refine wpQuiet_nil ?_ | go_big_quiet_step (fail)
        intro w4 hW
        have hs9 := in_ok hW
        have N4 := Lib.hid (N3.out.bel hs9)
        have HB4 := Lib.hid (HB3.out.trans (bel_base hs9 N3.out.rest.bs))
        obtain ⟨n1, n2⟩ := N4.out.mtch_cell rfl j (show j < mtch.length by omega)
        simp only at n1
        clear hW hs9 k0 k1 k2 k3 SX hne
        go_wp2_with fail
        try rw [show max mx mi = v1 from HV1.out.symm]
        have N5 : Hid (Nd 53 base g col ⟨id, conf, term, vote, 2, leader, b, bt, es, snap, commit, left, wait, votes, next, mtch.set j v1⟩ ⟨some ⟨cb, co, none⟩, cc, eA, ec, vA, vc, some ⟨nb, 0, none⟩, nc, some ⟨mb, 0, none⟩, mc0, oA, oc⟩ L _) := Lib.hid (N4.out.mtch_set rfl j (show j < mtch.length by omega) v1)
        have HB5 := Lib.hid (HB4.out.setCell (p := ⟨mb, j, none⟩) hmb (.int .i64 v1))
        clear n1 n2
        generalize w4.setCell ⟨mb, j, none⟩ (.int .i64 v1) = w5 at *
        have SX : Sb w5 w5.drew := Below.drew (Below.refl _ _)
        have hne : Nonempty (InS (Sb w5)) := ⟨⟨_, SX⟩⟩
        have k0 : ∀ (z : InS (Sb w5)) i, z.val.cell? ⟨g, i, none⟩ = (#[.int .i64 id, .slice (some ⟨cb, co, none⟩) conf.length cc, .int .i64 term, .int .i64 vote, .int .i64 2, .int .i64 leader, .int .i64 b, .int .i64 bt, .slice eA es.length ec, .string snap, .int .i64 commit, .int .i64 left, .int .i64 wait, .slice vA votes.length vc, .slice (some ⟨nb, 0, none⟩) next.length nc, .slice (some ⟨mb, 0, none⟩) mtch.length mc0, .slice oA L.length oc] : Array Value)[i]? := fun z i => by have := N5.out.blk.ins z i; simpa only [nodeC, List.length_set] using this
        have k2 : ∀ (z : InS (Sb w5)), z.val.cell? ⟨mb, j, none⟩ = some (.int .i64 v1) := fun z => by
          have := (N5.out.mtch_cell rfl j (by simp only [List.length_set]; omega)).1
          simp only at this
          rw [Rf.set_get _ _ _ _ (by omega), if_pos rfl] at this
          exact cell_in this z
        refine wp_region_tail_in 16 (Sb w5) (by kernel_rfl) (by kernel_rfl) SX ?_
        simp only [List.take_succ_cons, List.take_zero, List.drop_succ_cons, List.drop_zero]
        repeat (go_big_quiet_step (fail))
        first | refine wpQuiet_nil ?_ | go_big_quiet_step (fail)
        intro w6 hW
        have hs9 := in_ok hW
        have N6 := Lib.hid (N5.out.bel hs9)
        have HB6 := Lib.hid (HB5.out.trans (bel_base hs9 N5.out.rest.bs))
        obtain ⟨n1, n2⟩ := N6.out.next_cell rfl j (show j < next.length by omega)
        simp only at n1
        clear hW hs9 k0 k2 SX hne
        go_wp2_with fail
        have N7 : Hid (Nd 53 base g col ⟨id, conf, term, vote, 2, leader, b, bt, es, snap, commit, left, wait, votes, next.set j (v1 + 1), mtch.set j v1⟩ ⟨some ⟨cb, co, none⟩, cc, eA, ec, vA, vc, some ⟨nb, 0, none⟩, nc, some ⟨mb, 0, none⟩, mc0, oA, oc⟩ L _) := Lib.hid (N6.out.next_set rfl j (show j < next.length by omega) (v1 + 1))
        have HB7 := Lib.hid (HB6.out.setCell (p := ⟨nb, j, none⟩) hnb (.int .i64 (v1 + 1)))
        have hB7 : Hid (Rf.Base (⟨id, conf, term, vote, 2, leader, b, bt, es, snap, commit, left, wait, votes, next.set j (v1 + 1), mtch.set j v1⟩ : Nod)) := Lib.hid { hB.out with }
        clear n1 n2
        refine (agree_calls N7 (show 0 < conf.length by omega) hn7 (by simp only [List.length_set]; omega) hlen).mono ?_
        rintro e w8 ⟨rfl, ⟨col8, hN8⟩, hb8⟩
        obtain ⟨cm, hag, hc1, hc2⟩ := Rf.agree_eq hB7.out
        have HAG := Lib.hid hag
        rw [hag] at hN8
        have N8 : Hid (Nd 53 base g col8 ⟨id, conf, term, vote, 2, leader, b, bt, es, snap, cm, left, wait, votes, next.set j (v1 + 1), mtch.set j v1⟩ ⟨some ⟨cb, co, none⟩, cc, eA, ec, vA, vc, some ⟨nb, 0, none⟩, nc, some ⟨mb, 0, none⟩, mc0, oA, oc⟩ L w8) := Lib.hid hN8
        have HB8 := Lib.hid (HB7.out.trans hb8)
        have HLC8 := Lib.hid (fun W (h : Hid (Nd 53 base g col8 ⟨id, conf, term, vote, 2, leader, b, bt, es, snap, cm, left, wait, votes, next.set j (v1 + 1), mtch.set j v1⟩ ⟨some ⟨cb, co, none⟩, cc, eA, ec, vA, vc, some ⟨nb, 0, none⟩, nc, some ⟨mb, 0, none⟩, mc0, oA, oc⟩ L W)) => nlast_calls h hlen)
        rw [show Rf.lastN (⟨id, conf, term, vote, 2, leader, b, bt, es, snap, cm, left, wait, votes, next.set j (v1 + 1), mtch.set j v1⟩ : Nod) = ln from HLN.out.symm] at HLC8
        clear hag hN8 hb8 hc1 hc2
        go_wp2_with fail
        have SX : Sb w8 w8.drew := Below.drew (Below.refl _ _)
        have hne : Nonempty (InS (Sb w8)) := ⟨⟨_, SX⟩⟩
        have k0 : ∀ (z : InS (Sb w8)) i, z.val.cell? ⟨g, i, none⟩ = (#[.int .i64 id, .slice (some ⟨cb, co, none⟩) conf.length cc, .int .i64 term, .int .i64 vote, .int .i64 2, .int .i64 leader, .int .i64 b, .int .i64 bt, .slice eA es.length ec, .string snap, .int .i64 cm, .int .i64 left, .int .i64 wait, .slice vA votes.length vc, .slice (some ⟨nb, 0, none⟩) next.length nc, .slice (some ⟨mb, 0, none⟩) mtch.length mc0, .slice oA L.length oc] : Array Value)[i]? := fun z i => by have := N8.out.blk.ins z i; simpa only [nodeC, List.length_set] using this
        have k2 : ∀ (z : InS (Sb w8)), z.val.cell? ⟨nb, j, none⟩ = some (.int .i64 (v1 + 1)) := fun z => by
          have := (N8.out.next_cell rfl j (by simp only [List.length_set]; omega)).1
          simp only at this
          rw [Rf.set_get _ _ _ _ (by omega), if_pos rfl] at this
          exact cell_in this z
        refine wp_region_in (Sb w8) (by kernel_rfl) (by kernel_rfl) SX ?_
        repeat (go_big_quiet_step ((first | (go_at_call 60; exact calls_in_bel (fun _ _ h k => bel_tr h k) (HLC8.out _ (Lib.hid (N8.out.ins _)))))))
        first | refine wpQuiet_nil ?_ | go_big_quiet_step (fail)
        intro w9 hW
        have hs9 := in_ok hW
        have N9 := Lib.hid (N8.out.bel hs9)
        have HB9 := Lib.hid (HB8.out.trans (bel_base hs9 N8.out.rest.bs))
        clear hW hs9 k0 k2 SX hne
        by_cases hle : v1 + 1 ≤ ln
        · have HF := Lib.hid (show q = (⟨id, conf, term, vote, 2, leader, b, bt, es, snap, cm, left, wait, votes, next.set j (v1 + 1), mtch.set j v1⟩, [Rf.push ⟨id, conf, term, vote, 2, leader, b, bt, es, snap, cm, left, wait, votes, next.set j (v1 + 1), mtch.set j v1⟩ j]) from by rw [HQ3.out, if_pos hle, HAG.out])
          go_wp2_with fail
          refine (push_calls N9 (by omega) j (show j < conf.length by omega) hn7 (by simp only [List.length_set]; omega) hb01.1 hlen (by simp only; rw [Rf.set_get _ _ _ _ (by omega), if_pos rfl]; omega)).mono ?_
          intro e w10 hp
          have HP := Lib.hid hp
          obtain ⟨_, _, rfl, _, _⟩ := hp
          go_wp2_with fail
          go_end0
          rw [HF.out]
          obtain ⟨A6, c6, _, ⟨col6, oA6, oc6, hN6⟩, hb6⟩ := HP.out
          exact ⟨rfl, ⟨col6, ⟨some ⟨cb, co, none⟩, cc, eA, ec, vA, vc, some ⟨nb, 0, none⟩, nc, some ⟨mb, 0, none⟩, mc0, oA6, oc6⟩, [⟨_, A6, c6⟩], rfl, rfl, rfl, hN6⟩, HB9.out.trans hb6⟩
        · have HF := Lib.hid (show q = (⟨id, conf, term, vote, 2, leader, b, bt, es, snap, cm, left, wait, votes, next.set j (v1 + 1), mtch.set j v1⟩, []) from by rw [HQ3.out, if_neg hle, HAG.out])
          go_wp2_with fail
          go_end0
          rw [HF.out]
          exact ⟨rfl, ⟨col8, _, [], rfl, rfl, rfl, by rw [List.append_nil]; exact N9.out⟩, HB9.out⟩
  · obtain ⟨id, conf, term, vote, role, leader, b, bt, es, snap, commit, left, wait, votes, next, mtch⟩ := r
    obtain ⟨mk, ms, md, mt, mi, ml, mc, my, me, mdt⟩ := m
    simp only at hrole
    have hrb : (role != 2) = true := by rw [bne_iff_ne]; exact hrole
    have HF := Lib.hid (show q = (⟨id, conf, term, vote, role, leader, b, bt, es, snap, commit, left, wait, votes, next, mtch⟩, []) from by rw [HQ.out, if_pos (.inl hrole)])
    have hC := H.out.blk.cells
    dsimp only [nodeC] at hC
    have hgl := H.out.blk.lt
    have HB1 := Lib.hid (bel_new (Below.refl w.heap.size w) (.cells #[.int .i64 mk, .int .i64 ms, .int .i64 md, .int .i64 mt, .int .i64 mi, .int .i64 ml, .int .i64 mc, .bool my, .slice A me.length cap, .string mdt] 30))
    have N1 := Lib.hid (H.out.bel HB1.out)
    have HBS := Lib.hid H.out.rest.bs
    clear hrole
    go_enter Tryz.func22, Tryz.ntmps22
    go_wp2_with fail
    go_quiet (fail)
    go_wp2_with fail
    go_end0
    rw [HF.out]
    exact ⟨rfl, ⟨col, x, [], rfl, rfl, rfl, by rw [List.append_nil]; exact N1.out.bel (bel_drewN (Below.refl _ _) nq)⟩, bel_base (bel_drewN HB1.out nq) HBS.out⟩
end Go.Proofs.YtdladjgdhnkkcaaGreat
