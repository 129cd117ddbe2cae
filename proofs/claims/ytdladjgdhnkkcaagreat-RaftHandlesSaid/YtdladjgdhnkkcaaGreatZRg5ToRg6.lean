
/-
  2 texts in one.
  Conditions: stated lemma by lemma.
-/
import Derived.Test.YtdladjgdhnkkcaaGreatZRg2ToRg3
import Derived.Test.YtdladjgdhnkkcaaGreatZRg4
import Derived.Test.YtdladjgdhnkkcaaGreatZTr9ToTrR2
import Derived.Test.YtdladjgdhnkkcaaGreatZRf7ToRf8
/-
  Contract of the reference of layer 14: a leader begins.
  Conditions: the node lies in memory, it is right.
-/
namespace Go.Proofs.YtdladjgdhnkkcaaGreat
open Go.RowKit
set_option linter.unusedVariables false
set_option linter.unusedSimpArgs false
set_option maxHeartbeats 4000000

section
variable {t : TypeId} {base g : Nat} {col : Nat → Nat} {r : Nod} {x : NdX} {L : List MsgV} {w w1 w' : World} {A : Option Addr} {n c : Nat} {ns : List Int}
theorem own_n (A : Option Addr) (n m c : Nat) : (Value.slice A n c).ownBlock = (Value.slice A m c).ownBlock := by cases A <;> rfl
/-- a number more of next -/
theorem Rest.next_put (h : Rest base col r x L w) (hn : n = ns.length) (ho : OwnL (layI .i64) 2 w' base (.slice A n c) ns) (hg : w.grownBy w' (Value.slice x.nA r.next.length x.nc).ownBlock)
    (h3 : (Value.slice A n c).ownBlock = (Value.slice x.nA r.next.length x.nc).ownBlock ∨ (Value.slice A n c).ownBlock = some w.heap.size) :
    Rest base (Go.Proofs.YtdladjgdhnkkcaaGreat.recol col w.heap.size 3) { r with next := ns } { x with nA := A, nc := c } L w' := by
  subst hn
  have hon := Only.grown h.nextc hg
  have hon' : Only (Go.Proofs.YtdladjgdhnkkcaaGreat.recol col w.heap.size 3) 3 w w' := ⟨hon.1, fun b hb hc => hon.2 b hb (by rwa [recol_old hb] at hc)⟩
  have k := h.recol 3
  exact ⟨Nat.le_trans h.bs hon.1, k.conf.only k.confc (by decide) hon', k.confc, k.es.only (by decide) hon', k.votes.only k.votesc (by decide) hon', k.votesc, ho, col_new h.next h.nextc h3, k.mtch.only k.mtchc (by decide) hon', k.mtchc,
    k.out.only k.outc (by decide) hon', k.outc, fun z hz => ⟨(h.ents z hz).1, (k.ents z hz).2.only (by decide) hon'⟩⟩
theorem Rest.mtch_put (h : Rest base col r x L w) (hn : n = ns.length) (ho : OwnL (layI .i64) 2 w' base (.slice A n c) ns) (hg : w.grownBy w' (Value.slice x.mA r.mtch.length x.mc).ownBlock)
    (h3 : (Value.slice A n c).ownBlock = (Value.slice x.mA r.mtch.length x.mc).ownBlock ∨ (Value.slice A n c).ownBlock = some w.heap.size) :
    Rest base (Go.Proofs.YtdladjgdhnkkcaaGreat.recol col w.heap.size 4) { r with mtch := ns } { x with mA := A, mc := c } L w' := by
  subst hn
  have hon := Only.grown h.mtchc hg
  have hon' : Only (Go.Proofs.YtdladjgdhnkkcaaGreat.recol col w.heap.size 4) 4 w w' := ⟨hon.1, fun b hb hc => hon.2 b hb (by rwa [recol_old hb] at hc)⟩
  have k := h.recol 4
  exact ⟨Nat.le_trans h.bs hon.1, k.conf.only k.confc (by decide) hon', k.confc, k.es.only (by decide) hon', k.votes.only k.votesc (by decide) hon', k.votesc, k.next.only k.nextc (by decide) hon', k.nextc, ho, col_new h.mtch h.mtchc h3,
    k.out.only k.outc (by decide) hon', k.outc, fun z hz => ⟨(h.ents z hz).1, (k.ents z hz).2.only (by decide) hon'⟩⟩
theorem Nd.next_app {m : Nat} (h : Nd t base g col r x L w) (hb : Below w.heap.size w w1) (hn : n = ns.length) (ho : OwnL (layI .i64) 2 w' base (.slice A n c) ns) (hg : w1.grownBy w' (Value.slice x.nA m x.nc).ownBlock)
    (h3 : (Value.slice A n c).ownBlock = (Value.slice x.nA m x.nc).ownBlock ∨ (Value.slice A n c).ownBlock = some w1.heap.size) :
    Blk w' g t (nodeC r x L.length) ∧ Below base w w' ∧ ∃ col', Nd t base g col' { r with next := ns } { x with nA := A, nc := c } L (w'.setCell ⟨g, 14, none⟩ (.slice A n c)) := by
  rw [own_n x.nA m r.next.length x.nc] at hg h3
  have h1 := h.bel hb
  have hgl := h1.blk.lt
  have hB : Blk w' g t (nodeC r x L.length) := (hg.block g hgl (fun e => by have := h.rest.nextc g e.symm; rw [h.gc] at this; cases this)).trans h1.blk
  have hcg : Go.Proofs.YtdladjgdhnkkcaaGreat.recol col w1.heap.size 3 g = 1 := by rw [recol_old hgl]; exact h.gc
  refine ⟨hB, (bel_base hb h.rest.bs).trans (h1.rest.next.grown (Below.refl _ _) h1.rest.bs hg), _, h.ge, hcg, ?_, (h1.rest.next_put hn ho hg h3).set1 hcg _⟩
  subst hn
  exact hB.set 14 _
theorem Nd.mtch_app {m : Nat} (h : Nd t base g col r x L w) (hb : Below w.heap.size w w1) (hn : n = ns.length) (ho : OwnL (layI .i64) 2 w' base (.slice A n c) ns) (hg : w1.grownBy w' (Value.slice x.mA m x.mc).ownBlock)
    (h3 : (Value.slice A n c).ownBlock = (Value.slice x.mA m x.mc).ownBlock ∨ (Value.slice A n c).ownBlock = some w1.heap.size) :
    Blk w' g t (nodeC r x L.length) ∧ Below base w w' ∧ ∃ col', Nd t base g col' { r with mtch := ns } { x with mA := A, mc := c } L (w'.setCell ⟨g, 15, none⟩ (.slice A n c)) := by
  rw [own_n x.mA m r.mtch.length x.mc] at hg h3
  have h1 := h.bel hb
  have hgl := h1.blk.lt
  have hB : Blk w' g t (nodeC r x L.length) := (hg.block g hgl (fun e => by have := h.rest.mtchc g e.symm; rw [h.gc] at this; cases this)).trans h1.blk
  have hcg : Go.Proofs.YtdladjgdhnkkcaaGreat.recol col w1.heap.size 4 g = 1 := by rw [recol_old hgl]; exact h.gc
  refine ⟨hB, (bel_base hb h.rest.bs).trans (h1.rest.mtch.grown (Below.refl _ _) h1.rest.bs hg), _, h.ge, hcg, ?_, (h1.rest.mtch_put hn ho hg h3).set1 hcg _⟩
  subst hn
  exact hB.set 15 _
theorem OwnL.sized {k : IntKind} {e : TypeId} {b0 m : Nat} {v : Value} {xs : List Int} (h : OwnL (layI k) e w b0 v xs) (hn : xs.length = m) : ∃ A c, v = .slice A m c := by
  obtain ⟨A, c, hv, _⟩ := h.form
  exact ⟨A, c, by rw [hv, hn]⟩
end
theorem rep_snoc (k : Nat) (z : Int) : List.replicate k z ++ [z] = List.replicate (k + 1) z := by rw [List.replicate_succ']

set_option maxRecDepth 20000 in
theorem rlead_calls {base g : Nat} {col : Nat → Nat} {r : Nod} {x : NdX} {L : List MsgV} {w : World} (H : Hid (Nd 36 base g col r x L w)) (hL : L.length ≤ 900) (hB : Hid (Rf.Base r)) :
    Calls Tryz.prog 71 #[.pointer (some ⟨g, 0, none⟩)] w (Led 36 base g (Rf.lead r) x L (Rf.pushAll (Rf.lead r)) w) := by
  have hrim := Tr.chk_rim hB.out.trail
  have hca := Qm.chk_asc hB.out.conf
  have hln : Rf.lastN r = r.b + r.es.length := by unfold Rf.lastN; exact Rf.lastN_eq hB.out.trail
  have hl01 : 0 ≤ Rf.lastN r ∧ Rf.lastN r ≤ 1099511627776 := by rw [hln]; omega
  obtain ⟨cb, co, hcA, hcl, _⟩ := H.out.conf_at 0 hca.2.1
  obtain ⟨hfit, hnx⟩ := lead_fit hB.out
  have HF := Lib.hid hfit
  obtain ⟨q, hq⟩ : ∃ q, q = Rf.lead r := ⟨_, rfl⟩
  rw [← hq] at hnx ⊢
  have HX := Lib.hid hnx
  have HQ := Lib.hid hq
  unfold Rf.lead at HQ
  obtain ⟨o, ho⟩ : ∃ o, o = Rf.app r ByteArray.empty := ⟨_, rfl⟩
  have HO := Lib.hid ho
  have hn1 : 1 ≤ r.conf.length := hca.2.1
  have hn7 : r.conf.length ≤ 7 := hca.2.2
  have hlen : r.es.length ≤ 4096 := hrim.2.2.2.2.2.1
  clear hq ho hln hrim hca hfit hnx
  obtain ⟨id, conf, term, vote, role, leader, b, bt, es, snap, commit, left, wait, votes, next, mtch⟩ := r
  obtain ⟨cA, cc, eA, ec, vA, vc, nA, nc, mA, mc, oA, oc⟩ := x
  simp only at hcA hn1 hn7 hlen
  subst hcA
  have HLC := Lib.hid (rlast2_calls b bt eA ec es w H.out.rest.es.rd (by omega))
  obtain ⟨ln, hlg⟩ : ∃ ln, ln = Tr.lastN b bt es := ⟨_, rfl⟩
  rw [← hlg] at HLC
  have HLG : Hid (Rf.lastN (⟨id, conf, term, vote, role, leader, b, bt, es, snap, commit, left, wait, votes, next, mtch⟩ : Nod) = ln) := Lib.hid hlg.symm
  have hl0 : 0 ≤ ln := by rw [← HLG.out]; exact hl01.1
  have hl1 : ln ≤ 1099511627776 := by rw [← HLG.out]; exact hl01.2
  have hw1 : IntKind.i64.wrap (ln + 1) = ln + 1 := IntWalk.i64_in _ (by omega)
  have HG9 : Hid (Rf.grow (Rf.lead0 ⟨id, conf, term, vote, role, leader, b, bt, es, snap, commit, left, wait, votes, next, mtch⟩) ByteArray.empty = ⟨id, conf, term, vote, 2, id, b, bt, o.getD es, snap, commit, 2, wait, [], List.replicate conf.length (ln + 1), List.replicate conf.length 0⟩) := Lib.hid (by
    rw [← HLG.out]
    unfold Rf.grow
    rw [show Rf.app (Rf.lead0 ⟨id, conf, term, vote, role, leader, b, bt, es, snap, commit, left, wait, votes, next, mtch⟩) ByteArray.empty = o from HO.out.symm]
    rfl)
  rw [HG9.out] at HF HQ
  have hC := H.out.blk.cells
  dsimp only [nodeC] at hC
  have HBS := Lib.hid H.out.rest.bs
  clear hlg hl01
  go_enter Tryz.func71, Tryz.ntmps71
  go_wp2_with fail
  refine HLC.out.mono ?_
  rintro e w1 ⟨rfl, hb1⟩
  have N0 := Lib.hid (H.out.bel hb1)
  have HB0 := Lib.hid (bel_base hb1 HBS.out)
  have hC1 : ∀ i, w1.cell? ⟨g, i, none⟩ = (nodeC (⟨id, conf, term, vote, role, leader, b, bt, es, snap, commit, left, wait, votes, next, mtch⟩) ⟨some ⟨cb, co, none⟩, cc, eA, ec, vA, vc, nA, nc, mA, mc, oA, oc⟩ L.length)[i]? := N0.out.blk.cells
  dsimp only [nodeC] at hC1
  have hgl := N0.out.blk.lt
  have hgf := N0.out.blk.free
  clear hb1 hC HLC
  go_upto_region 7 with (fail)
  have hR := (((((N0.out.run.set 4 (.int .i64 2)).set 5 (.int .i64 id)).set 11 (.int .i64 2)).set 13 (.slice none 0 0)).set 14 (.slice none 0 0)).set 15 (.slice none 0 0)
  have HBL1 := Lib.hid (HB0.out.trans hR.bel)
  have N1 := Lib.hid (hR.nd0 (⟨id, conf, term, vote, 2, id, b, bt, es, snap, commit, 2, wait, [], [], []⟩) (by simp only [nodeC, List.setIfInBounds_toArray, List.set_cons_succ, List.set_cons_zero, List.length_nil]) rfl rfl rfl rfl rfl)
  generalize (((((w1.setCell ⟨g, 4, none⟩ (.int .i64 2)).setCell ⟨g, 5, none⟩ (.int .i64 id)).setCell ⟨g, 11, none⟩ (.int .i64 2)).setCell ⟨g, 13, none⟩ (.slice none 0 0)).setCell ⟨g, 14, none⟩ (.slice none 0 0)).setCell ⟨g, 15, none⟩ (.slice none 0 0) = w2 at *
  clear hC1 hgl hgf hR N0 HB0
  go_wp2_with fail
  go_loopg [4] conf.length (fun n v4 W => ∃ k : Nat, v4 = .int .i64 k ∧ k + n = conf.length ∧ Hid (Below base w W ∧ ∃ col nA nc mA mc, Nd 36 base g col ⟨id, conf, term, vote, 2, id, b, bt, es, snap, commit, 2, wait, [], (List.replicate k (ln + 1)), (List.replicate k 0)⟩ ⟨some ⟨cb, co, none⟩, cc, eA, ec, none, 0, nA, nc, mA, mc, oA, oc⟩ L W))
  case atStart => exact ⟨0, rfl, by omega, Lib.hid ⟨HBL1.out, col, none, 0, none, 0, N1.out⟩⟩
  case round =>
    obtain ⟨k, rfl, hkg, HI⟩ := hrel
    obtain ⟨hbl, col3, nA3, nc3, mA3, mc3, hN3⟩ := HI.out
    have HB3 := Lib.hid hbl
    have N3 := Lib.hid hN3
    have HGE := Lib.hid hN3.ge
    have hc3 : ∀ i, wr.cell? ⟨g, i, none⟩ = (nodeC (⟨id, conf, term, vote, 2, id, b, bt, es, snap, commit, 2, wait, [], (List.replicate k (ln + 1)), (List.replicate k 0)⟩) ⟨some ⟨cb, co, none⟩, cc, eA, ec, none, 0, nA3, nc3, mA3, mc3, oA, oc⟩ L.length)[i]? := N3.out.blk.cells
    dsimp only [nodeC] at hc3
    rw [List.length_replicate, List.length_replicate] at hc3
    have hgl := N3.out.blk.lt
    clear hbl hN3 HI N1 HBL1
    by_cases hlt : k < conf.length
    · have hl : (k : Int) < (conf.length : Int) := by omega
      obtain ⟨n, rfl⟩ : ∃ n, gk = n + 1 := ⟨gk - 1, by omega⟩
      have hk1 : (k : Int) + 1 ≤ 9223372036854775807 := by omega
      have HON : Hid (OwnL (layI .i64) 2 wr base (.slice nA3 k nc3) (List.replicate k (ln + 1))) := Lib.hid (by have := N3.out.rest.next; simpa using this)
      have HAL := Lib.hid (bel_new (Below.refl wr.heap.size wr) (.cells #[.int .i64 (ln + 1)] 2))
      have HBW := Lib.hid N3.out.rest.bs
      go_upto_region 11 with (first
        | (at_builtin
           refine wpList_appAt (L := layI .i64) 26 _ 8 Tryz.underlying26 infoL rfl rfl (.tmp 60) (.tmp 63) rfl base (.slice nA3 k nc3) (List.replicate k (ln + 1)) rfl (HON.out.kept HAL.out) ⟨wr.heap.size, 0, none⟩ 1 1 [ln + 1] rfl rfl (rdL_lit wr 2 [ln + 1] (by simp [maxLen]) _ rfl) (by simp [maxLen]; omega) (by simp; omega) (Nat.le_trans HBW.out HAL.out.size) ?_
           intro v5 w5 ho5 hg5 h35
           rw [rep_snoc] at ho5
           obtain ⟨A5, c5, rfl⟩ := ho5.sized (m := k + 1) (by simp)
           obtain ⟨hB5, hb5, hN5⟩ := N3.out.next_app HAL.out (by simp) ho5 hg5 h35
           have HN5 := Lib.hid hN5
           have HB5 := Lib.hid (HB3.out.trans hb5)
           have f5 := hB5.free
           have l5 := hB5.lt
           have q5 : w5.cell? ⟨g, 14, none⟩ = some (.slice nA3 k nc3) := by have := hB5.cells 14; simpa [nodeC] using this
           clear ho5 hg5 h35 hB5 hb5 hN5 hc3 hgl))
      obtain ⟨col6, hN6⟩ := HN5.out
      have HB6 := Lib.hid (HB5.out.setCell (p := ⟨g, 14, none⟩) HGE.out (.slice A5 (k + 1) c5))
      have N6 := Lib.hid hN6
      generalize w5.setCell ⟨g, 14, none⟩ (.slice A5 (k + 1) c5) = w6 at *
      have hc6 : w6.cell? ⟨g, 15, none⟩ = some (.slice mA3 k mc3) := by have := N6.out.blk.cells 15; simpa [nodeC] using this
      have hgl := N6.out.blk.lt
      have HOM : Hid (OwnL (layI .i64) 2 w6 base (.slice mA3 k mc3) (List.replicate k 0)) := Lib.hid (by have := N6.out.rest.mtch; simpa using this)
      have HAM := Lib.hid (bel_new (Below.refl w6.heap.size w6) (.cells #[.int .i64 0] 2))
      have HBX := Lib.hid N6.out.rest.bs
      clear f5 l5 q5 HN5 HB5 hN6 HON HAL HBW N3 HB3
      go_wp2_with (first
        | (at_builtin
           refine wpList_appAt (L := layI .i64) 26 _ 8 Tryz.underlying26 infoL rfl rfl (.tmp 73) (.tmp 74) rfl base (.slice mA3 k mc3) (List.replicate k 0) rfl (HOM.out.kept HAM.out) ⟨w6.heap.size, 0, none⟩ 1 1 [0] rfl rfl (rdL_lit w6 2 [0] (by simp [maxLen]) _ rfl) (by simp [maxLen]; omega) (by simp; omega) (Nat.le_trans HBX.out HAM.out.size) ?_
           intro v7 w7 ho7 hg7 h37
           rw [rep_snoc] at ho7
           obtain ⟨A7, c7, rfl⟩ := ho7.sized (m := k + 1) (by simp)
           obtain ⟨hB7, hb7, hN7⟩ := N6.out.mtch_app HAM.out (by simp) ho7 hg7 h37
           have HN7 := Lib.hid hN7
           have HB7 := Lib.hid (HB6.out.trans hb7)
           have f7 := hB7.free
           have l7 := hB7.lt
           have q7 : w7.cell? ⟨g, 15, none⟩ = some (.slice mA3 k mc3) := by have := hB7.cells 15; simpa [nodeC] using this
           clear ho7 hg7 h37 hB7 hb7 hN7 hc6 hgl))
      go_roundg n
      case rel =>
        obtain ⟨col8, hN8⟩ := HN7.out
        exact ⟨k + 1, by go_num, by omega, Lib.hid ⟨HB7.out.setCell (p := ⟨g, 15, none⟩) HGE.out _, col8, A5, c5, A7, c7, hN8⟩⟩
      case measure => omega
    · have hl : ¬ (k : Int) < (conf.length : Int) := by omega
      obtain rfl : k = conf.length := by omega
      go_upto_region 12 with (fail)
      have K6 := N3
      have N1 := N3
      have HBL := HB3
      clear hc3 hgl N3 HB3 hkg hlt hl
      obtain ⟨nA6, hnA6⟩ : ∃ z, z = nA3 := ⟨_, rfl⟩
      obtain ⟨nc6, hnc6⟩ : ∃ z, z = nc3 := ⟨_, rfl⟩
      obtain ⟨mA6, hmA6⟩ : ∃ z, z = mA3 := ⟨_, rfl⟩
      obtain ⟨mc6, hmc6⟩ : ∃ z, z = mc3 := ⟨_, rfl⟩
      obtain ⟨w6, hw6⟩ : ∃ z, z = wr := ⟨_, rfl⟩
      subst hnA6; subst hnc6; subst hmA6; subst hmc6; subst hw6
      have c2 : w6.cell? ⟨g, 2, none⟩ = some (.int .i64 term) := K6.out.blk.cells 2
      have c6 : w6.cell? ⟨g, 6, none⟩ = some (.int .i64 b) := K6.out.blk.cells 6
      have c7 : w6.cell? ⟨g, 7, none⟩ = some (.int .i64 bt) := K6.out.blk.cells 7
      have c8 : w6.cell? ⟨g, 8, none⟩ = some (.slice eA es.length ec) := K6.out.blk.cells 8
      have HAP : Hid (∀ W, RdE W eA es → Calls Tryz.prog 91 #[trV b bt eA es.length ec, .agg #[.int .i64 term, .string ByteArray.empty]] W fun e w' => (∃ v, e = .returned v ∧ ResT W.heap.size b bt o v w') ∧ Below W.heap.size W w') := Lib.hid (fun W hR => by
        rw [show o = (if Tr.chk b bt es = true then Tr.with_ b bt es es.length [(term, ByteArray.empty)] else none) from HO.out]
        exact rappend_calls b bt term ByteArray.empty eA ec es W hR (by omega) K6.out.rest.es.le)
      have HNE : Hid (g ≠ w6.heap.size) := Lib.hid (by have := K6.out.blk.lt; omega)
      have KA := Lib.hid (K6.out.bel (bel_drew (bel_new (Below.refl w6.heap.size w6) (.cells #[.int .i64 0, .int .i64 0, .slice none 0 0] 25))))
      have KKA := Lib.hid (And.intro (KA.out.blk.cells 2) (And.intro (KA.out.blk.cells 6) (And.intro (KA.out.blk.cells 7) (KA.out.blk.cells 8))))
      go_region_held3 (fun W => W.cell? ⟨g, 2, none⟩ = some (.int .i64 term) ∧ W.cell? ⟨g, 6, none⟩ = some (.int .i64 b) ∧ W.cell? ⟨g, 7, none⟩ = some (.int .i64 bt) ∧ W.cell? ⟨g, 8, none⟩ = some (.slice eA es.length ec))
        (first | exact ⟨c2, c6, c7, c8⟩ | exact KK7.out | exact KKA.out | exact ⟨(N7.out.bel (bel_new (Below.refl _ _) _)).blk.cells 2, (N7.out.bel (bel_new (Below.refl _ _) _)).blk.cells 6, (N7.out.bel (bel_new (Below.refl _ _) _)).blk.cells 7, (N7.out.bel (bel_new (Below.refl _ _) _)).blk.cells 8⟩ | exact ⟨(((N7.out.blk.far HNE.out _).far HNE.out _).far HNE.out _).cells 2, (((N7.out.blk.far HNE.out _).far HNE.out _).far HNE.out _).cells 6, (((N7.out.blk.far HNE.out _).far HNE.out _).far HNE.out _).cells 7, (((N7.out.blk.far HNE.out _).far HNE.out _).far HNE.out _).cells 8⟩)
        (first
          | (go_at_call 91
             refine (HAP.out w6.drew K6.out.rest.es.rd).mono ?_
             rintro e w7 ⟨⟨v, rfl, hv⟩, hb7⟩
             obtain ⟨tb, tbt, tA, tn, tc, ok, rfl, HOK⟩ := hv.one
             have N7 := Lib.hid ((K6.out.bel (bel_drew (Below.refl _ _))).bel hb7)
             have KK7 := Lib.hid (And.intro (N7.out.blk.cells 2) (And.intro (N7.out.blk.cells 6) (And.intro (N7.out.blk.cells 7) (N7.out.blk.cells 8))))
             have HB7 := Lib.hid (bel_tr (bel_drew (Below.refl w6.heap.size w6)) hb7)
             clear hv hb7)
          | (go_at_call 91
             refine (HAP.out ((w6.alloc (.cells #[.int .i64 0, .int .i64 0, .slice none 0 0] 25)).drew) KA.out.rest.es.rd).mono ?_
             rintro e w7 ⟨⟨v, rfl, hv⟩, hb7⟩
             obtain ⟨tb, tbt, tA, tn, tc, ok, rfl, HOK⟩ := hv.one
             have N7 := Lib.hid (KA.out.bel hb7)
             have HB7 := Lib.hid (bel_tr (bel_drew (bel_new (Below.refl w6.heap.size w6) (.cells #[.int .i64 0, .int .i64 0, .slice none 0 0] 25))) hb7)
             have KK7 := Lib.hid (And.intro (N7.out.blk.cells 2) (And.intro (N7.out.blk.cells 6) (And.intro (N7.out.blk.cells 7) (N7.out.blk.cells 8))))
             have HZ7 := Lib.hid (((Blk.new w6 25 #[.int .i64 0, .int .i64 0, .slice none 0 0]).drewN 1).bel hb7)
             have z7 := HZ7.out.free
             have y7 := HZ7.out.cells
             clear hv hb7))
      · have HZ8 := Lib.hid (Blk.new w7 25 #[.int .i64 tb, .int .i64 tbt, .slice tA tn tc])
        have N8 := Lib.hid (N7.out.bel (bel_new (Below.refl _ _) (.cells #[.int .i64 tb, .int .i64 tbt, .slice tA tn tc] 25)))
        have HB86 := Lib.hid (bel_new HB7.out (.cells #[.int .i64 tb, .int .i64 tbt, .slice tA tn tc] 25))
        have HR8 : Hid (∀ es', o = some es' → tb = b ∧ tbt = bt ∧ tn = es'.length ∧ OwnE (w7.alloc (.cells #[.int .i64 tb, .int .i64 tbt, .slice tA tn tc] 25)) w6.heap.size (.slice tA tn tc) es') := Lib.hid (fun es' h => by
          obtain ⟨h1, h2, h3, h4⟩ := HOK.out.2 es' h
          exact ⟨h1, h2, h3, h4.kept (bel_new (Below.refl _ _) _)⟩)
        have HB8 := Lib.hid (HBL.out.trans (bel_base HB86.out K6.out.rest.bs))
        generalize hW8 : w7.alloc (.cells #[.int .i64 tb, .int .i64 tbt, .slice tA tn tc] 25) = W8 at *
        clear hW8
        have d8 := N8.out.blk.lt
        have e8 := N8.out.blk.free
        have t8 := HZ8.out.cells
        have cc8 : ∀ i, W8.cell? ⟨g, i, none⟩ = (nodeC (⟨id, conf, term, vote, 2, id, b, bt, es, snap, commit, 2, wait, [], List.replicate conf.length (ln + 1), List.replicate conf.length 0⟩) (⟨some ⟨cb, co, none⟩, cc, eA, ec, none, 0, nA6, nc6, mA6, mc6, oA, oc⟩) L.length)[i]? := N8.out.blk.cells
        dsimp only [nodeC] at cc8
        have hend : ∀ (x9 : NdX) (W9 : World) (e : Ending) (W : World), x9.cA = some ⟨cb, co, none⟩ → x9.cc = cc → Below base w W9 → Said 36 base g q x9 L (Rf.pushAll q) W9 e W → Led 36 base g q ⟨some ⟨cb, co, none⟩, cc, eA, ec, vA, vc, nA, nc, mA, mc, oA, oc⟩ L (Rf.pushAll q) w e W := fun x9 W9 e W h1 h2 h3 ⟨h4, ⟨col', oA', oc', LV, h5, h6⟩, h7⟩ => ⟨h4, ⟨col', { x9 with oA := oA', oc := oc' }, LV, h1, h2, h5, h6⟩, h3.trans h7⟩
        have HEND := Lib.hid hend
        clear hend
        cases ok with
        | false =>
          have hon : o = none := by have := HOK.out.1; cases o with | none => rfl | some _ => cases this
          rw [hon] at HF HQ
          simp only [Option.getD_none] at HF HQ
          clear hon
          go_wp2_with fail
          refine (rown_calls N8 (Lib.hid HF.out.id) hn7 HF.out.next HF.out.mtch hlen HF.out.l0 HF.out.l1).mono ?_
          rintro e w9 ⟨rfl, ⟨col9, hN9⟩, hb9⟩
          have N9 := Lib.hid hN9
          have HB9 := Lib.hid hb9
          have HF9 := Lib.hid HF.out.own
          clear hN9 hb9
          go_wp2_with fail
          refine (ragree_calls N9 HF9.out.c0 HF9.out.c7 HF9.out.mtch HF9.out.len).mono ?_
          rintro e w10 ⟨rfl, ⟨col10, hN10⟩, hb10⟩
          have HF10 := Lib.hid HF9.out.agree
          rw [← HQ.out] at hN10 HF10
          have N10 := Lib.hid hN10
          have HB10 := Lib.hid hb10
          clear hN10 hb10
          go_wp2_with fail
          refine (rpushAll_calls N10 hL HF10.out.c0 HF10.out.c7 HF10.out.next HF10.out.b0 HF10.out.len HX).mono ?_
          intro e w11 hs
          have HS := Lib.hid hs
          obtain ⟨rfl, _, _⟩ := hs
          go_wp2_with fail
          go_end0
          exact HEND.out _ _ _ _ rfl rfl (HB8.out.trans (HB9.out.trans HB10.out)) HS.out
        | true =>
          obtain ⟨es', hoe⟩ : ∃ es', o = some es' := by have := HOK.out.1; cases o with | none => cases this | some e => exact ⟨e, rfl⟩
          obtain ⟨e1, e2, rfl, hOt⟩ := HR8.out es' hoe
          obtain rfl := e1.symm
          obtain rfl := e2.symm
          rw [hoe] at HF HQ
          simp only [Option.getD_some] at HF HQ
          have k9 := K6.out.log_new HB86.out b bt hOt
          have K9 := Lib.hid k9
          have HB9 := Lib.hid (((HB8.out.setCell (p := ⟨g, 6, none⟩) N1.out.ge (.int .i64 b)).setCell (p := ⟨g, 7, none⟩) N1.out.ge (.int .i64 bt)).setCell (p := ⟨g, 8, none⟩) N1.out.ge (.slice tA es'.length tc))
          clear hoe hOt k9
          go_wp2_with fail
          refine (rown_calls K9 (Lib.hid HF.out.id) hn7 HF.out.next HF.out.mtch HF.out.len HF.out.l0 HF.out.l1).mono ?_
          rintro e w9 ⟨rfl, ⟨col9, hN9⟩, hb9⟩
          have N9 := Lib.hid hN9
          have HBA := Lib.hid hb9
          have HF9 := Lib.hid HF.out.own
          clear hN9 hb9
          go_wp2_with fail
          refine (ragree_calls N9 HF9.out.c0 HF9.out.c7 HF9.out.mtch HF9.out.len).mono ?_
          rintro e w10 ⟨rfl, ⟨col10, hN10⟩, hb10⟩
          have HF10 := Lib.hid HF9.out.agree
          rw [← HQ.out] at hN10 HF10
          have N10 := Lib.hid hN10
          have HB10 := Lib.hid hb10
          clear hN10 hb10
          go_wp2_with fail
          refine (rpushAll_calls N10 hL HF10.out.c0 HF10.out.c7 HF10.out.next HF10.out.b0 HF10.out.len HX).mono ?_
          intro e w11 hs
          have HS := Lib.hid hs
          obtain ⟨rfl, _, _⟩ := hs
          go_wp2_with fail
          go_end0
          exact HEND.out _ _ _ _ rfl rfl (HB9.out.trans (HBA.out.trans HB10.out)) HS.out
      · have HZ8 := Lib.hid (((HZ7.out.set 0 (.int .i64 tb)).set 1 (.int .i64 tbt)).set 2 (.slice tA tn tc))
        have HB86 := Lib.hid (bel_set (bel_set (bel_set HB7.out (g := w6.heap.size) (Nat.le_refl _) 0 (.int .i64 tb)) (g := w6.heap.size) (Nat.le_refl _) 1 (.int .i64 tbt)) (g := w6.heap.size) (Nat.le_refl _) 2 (.slice tA tn tc))
        have N8 := Lib.hid (K6.out.bel HB86.out)
        have HR8 : Hid (∀ es', o = some es' → tb = b ∧ tbt = bt ∧ tn = es'.length ∧ OwnE (((w7.setCell ⟨w6.heap.size, 0, none⟩ (.int .i64 tb)).setCell ⟨w6.heap.size, 1, none⟩ (.int .i64 tbt)).setCell ⟨w6.heap.size, 2, none⟩ (.slice tA tn tc)) w6.heap.size (.slice tA tn tc) es') := Lib.hid (fun es' h => by
          obtain ⟨h1, h2, h3, h4⟩ := HOK.out.2 es' h
          have h5 : OwnE w7 (w6.heap.size + 1) (.slice tA tn tc) es' := by simpa using h4
          exact ⟨h1, h2, h3, OwnE.low (OwnE.set (OwnE.set (OwnE.set h5 (Nat.lt_succ_self _)) (Nat.lt_succ_self _)) (Nat.lt_succ_self _)) (Nat.le_succ _)⟩)
        have HB8 := Lib.hid (HBL.out.trans (bel_base HB86.out K6.out.rest.bs))
        generalize hW8 : ((w7.setCell ⟨w6.heap.size, 0, none⟩ (.int .i64 tb)).setCell ⟨w6.heap.size, 1, none⟩ (.int .i64 tbt)).setCell ⟨w6.heap.size, 2, none⟩ (.slice tA tn tc) = W8 at *
        clear hW8
        have d8 := N8.out.blk.lt
        have e8 := N8.out.blk.free
        have t8 := HZ8.out.cells
        have cc8 : ∀ i, W8.cell? ⟨g, i, none⟩ = (nodeC (⟨id, conf, term, vote, 2, id, b, bt, es, snap, commit, 2, wait, [], List.replicate conf.length (ln + 1), List.replicate conf.length 0⟩) (⟨some ⟨cb, co, none⟩, cc, eA, ec, none, 0, nA6, nc6, mA6, mc6, oA, oc⟩) L.length)[i]? := N8.out.blk.cells
        dsimp only [nodeC] at cc8
        have hend : ∀ (x9 : NdX) (W9 : World) (e : Ending) (W : World), x9.cA = some ⟨cb, co, none⟩ → x9.cc = cc → Below base w W9 → Said 36 base g q x9 L (Rf.pushAll q) W9 e W → Led 36 base g q ⟨some ⟨cb, co, none⟩, cc, eA, ec, vA, vc, nA, nc, mA, mc, oA, oc⟩ L (Rf.pushAll q) w e W := fun x9 W9 e W h1 h2 h3 ⟨h4, ⟨col', oA', oc', LV, h5, h6⟩, h7⟩ => ⟨h4, ⟨col', { x9 with oA := oA', oc := oc' }, LV, h1, h2, h5, h6⟩, h3.trans h7⟩
        have HEND := Lib.hid hend
        clear hend
        cases ok with
        | false =>
          have hon : o = none := by have := HOK.out.1; cases o with | none => rfl | some _ => cases this
          rw [hon] at HF HQ
          simp only [Option.getD_none] at HF HQ
          clear hon
          go_wp2_with fail
          refine (rown_calls N8 (Lib.hid HF.out.id) hn7 HF.out.next HF.out.mtch hlen HF.out.l0 HF.out.l1).mono ?_
          rintro e w9 ⟨rfl, ⟨col9, hN9⟩, hb9⟩
          have N9 := Lib.hid hN9
          have HB9 := Lib.hid hb9
          have HF9 := Lib.hid HF.out.own
          clear hN9 hb9
          go_wp2_with fail
          refine (ragree_calls N9 HF9.out.c0 HF9.out.c7 HF9.out.mtch HF9.out.len).mono ?_
          rintro e w10 ⟨rfl, ⟨col10, hN10⟩, hb10⟩
          have HF10 := Lib.hid HF9.out.agree
          rw [← HQ.out] at hN10 HF10
          have N10 := Lib.hid hN10
          have HB10 := Lib.hid hb10
          clear hN10 hb10
          go_wp2_with fail
          refine (rpushAll_calls N10 hL HF10.out.c0 HF10.out.c7 HF10.out.next HF10.out.b0 HF10.out.len HX).mono ?_
          intro e w11 hs
          have HS := Lib.hid hs
          obtain ⟨rfl, _, _⟩ := hs
          go_wp2_with fail
          go_end0
          exact HEND.out _ _ _ _ rfl rfl (HB8.out.trans (HB9.out.trans HB10.out)) HS.out
        | true =>
          obtain ⟨es', hoe⟩ : ∃ es', o = some es' := by have := HOK.out.1; cases o with | none => cases this | some e => exact ⟨e, rfl⟩
          obtain ⟨e1, e2, rfl, hOt⟩ := HR8.out es' hoe
          obtain rfl := e1.symm
          obtain rfl := e2.symm
          rw [hoe] at HF HQ
          simp only [Option.getD_some] at HF HQ
          have k9 := K6.out.log_new HB86.out b bt hOt
          have K9 := Lib.hid k9
          have HB9 := Lib.hid (((HB8.out.setCell (p := ⟨g, 6, none⟩) N1.out.ge (.int .i64 b)).setCell (p := ⟨g, 7, none⟩) N1.out.ge (.int .i64 bt)).setCell (p := ⟨g, 8, none⟩) N1.out.ge (.slice tA es'.length tc))
          clear hoe hOt k9
          go_wp2_with fail
          refine (rown_calls K9 (Lib.hid HF.out.id) hn7 HF.out.next HF.out.mtch HF.out.len HF.out.l0 HF.out.l1).mono ?_
          rintro e w9 ⟨rfl, ⟨col9, hN9⟩, hb9⟩
          have N9 := Lib.hid hN9
          have HBA := Lib.hid hb9
          have HF9 := Lib.hid HF.out.own
          clear hN9 hb9
          go_wp2_with fail
          refine (ragree_calls N9 HF9.out.c0 HF9.out.c7 HF9.out.mtch HF9.out.len).mono ?_
          rintro e w10 ⟨rfl, ⟨col10, hN10⟩, hb10⟩
          have HF10 := Lib.hid HF9.out.agree
          rw [← HQ.out] at hN10 HF10
          have N10 := Lib.hid hN10
          have HB10 := Lib.hid hb10
          clear hN10 hb10
          go_wp2_with fail
          refine (rpushAll_calls N10 hL HF10.out.c0 HF10.out.c7 HF10.out.next HF10.out.b0 HF10.out.len HX).mono ?_
          intro e w11 hs
          have HS := Lib.hid hs
          obtain ⟨rfl, _, _⟩ := hs
          go_wp2_with fail
          go_end0
          exact HEND.out _ _ _ _ rfl rfl (HB9.out.trans (HBA.out.trans HB10.out)) HS.out
end Go.Proofs.YtdladjgdhnkkcaaGreat

/-
  Contract of the reference of layer 14: a node stands for leader.
  Conditions: the node lies in memory, it is right.
-/
namespace Go.Proofs.YtdladjgdhnkkcaaGreat
open Go.RowKit
set_option linter.unusedVariables false
set_option linter.unusedSimpArgs false
set_option maxHeartbeats 4000000

namespace Qm
end Qm
section
variable {t : TypeId} {base g : Nat} {col : Nat → Nat} {r : Nod} {x : NdX} {L : List MsgV} {w0 W : World} {cs : Array Value}
end
theorem AInv.to {t : TypeId} {base g : Nat} {r : Nod} {x : NdX} {L : List MsgV} {w W W' : World} {k n : Nat} (h : AInv t base g r x L w k n W) (hb : Below W.heap.size W W') : AInv t base g r x L w k n W' := by
  obtain ⟨h1, h2, col, oA, oc, LV, h3, h4, h5⟩ := h
  exact ⟨h1, h2.trans (bel_base hb h3.rest.bs), col, oA, oc, LV, h3.bel hb, h4, h5⟩

end Go.Proofs.YtdladjgdhnkkcaaGreat
