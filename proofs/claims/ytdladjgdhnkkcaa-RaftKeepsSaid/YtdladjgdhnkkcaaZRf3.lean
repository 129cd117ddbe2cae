
/-
  Contract: the log's next entries, or the whole, are sent to the node at a place.
  Conditions: the node lies in memory, its log is right.
-/
import Derived.Test.YtdladjgdhnkkcaaZRf2
import Derived.Deep.RegionHeld3
import Derived.IntWalk
namespace Go.Proofs.Ytdladjgdhnkkcaa
open Go.RowKit
set_option linter.unusedVariables false
set_option linter.unusedSimpArgs false
set_option maxHeartbeats 2000000

theorem OwnL.rd {α : Type} [Inhabited α] {L : Lay α} {e : TypeId} {w : World} {base : Nat} {A : Option Addr} {n c : Nat} {xs : List α} (h : OwnL L e w base (.slice A n c) xs) : n = xs.length ∧ RdL L w A xs ∧ n ≤ c ∧ c ≤ maxLen := by
  obtain ⟨A', c', e, h1, h2, h3, _⟩ := h.form
  injection e with e1 e2 e3
  subst e1; subst e2; subst e3
  exact ⟨rfl, h3, h1, h2⟩
theorem Nd.recol {t : TypeId} {base g : Nat} {col : Nat → Nat} {r : Nod} {x : NdX} {L : List MsgV} {w : World} (h : Nd t base g col r x L w) (c : Nat) : Nd t base g (Go.Proofs.Ytdladjgdhnkkcaa.recol col w.heap.size c) r x L w :=
  ⟨h.ge, by rw [recol_old h.blk.lt]; exact h.gc, h.blk, h.rest.recol c⟩
theorem Nd.conf_at {t : TypeId} {base g : Nat} {col : Nat → Nat} {r : Nod} {x : NdX} {L : List MsgV} {w : World} (h : Nd t base g col r x L w) (i : Nat) (hi : i < r.conf.length) :
    ∃ b off, x.cA = some ⟨b, off, none⟩ ∧ b < w.heap.size ∧ w.cell? ⟨b, off + i, none⟩ = some (.int .i64 (r.conf.getD i 0)) := h.rest.conf.rd.2.1.int i hi
theorem Nd.conf_cell {t : TypeId} {base g : Nat} {col : Nat → Nat} {r : Nod} {x : NdX} {L : List MsgV} {w : World} (h : Nd t base g col r x L w) {b off : Nat} (hA : x.cA = some ⟨b, off, none⟩) (i : Nat) (hi : i < r.conf.length) {c : Int} (hc : r.conf.getD i 0 = c) :
    w.cell? ⟨b, off + i, none⟩ = some (.int .i64 c) := by
  obtain ⟨b', off', e, _, h'⟩ := h.conf_at i hi
  rw [hA] at e
  injection e with e
  injection e with e1 e2 _
  subst e1; subst e2
  rw [← hc]
  exact h'
theorem Nd.next_at {t : TypeId} {base g : Nat} {col : Nat → Nat} {r : Nod} {x : NdX} {L : List MsgV} {w : World} (h : Nd t base g col r x L w) (i : Nat) (hi : i < r.next.length) :
    ∃ b off, x.nA = some ⟨b, off, none⟩ ∧ b < w.heap.size ∧ w.cell? ⟨b, off + i, none⟩ = some (.int .i64 (r.next.getD i 0)) := h.rest.next.rd.2.1.int i hi

/-- a message is sent, wherever its entries lie -/
def Pushed (t : TypeId) (base g : Nat) (r : Nod) (x : NdX) (L : List MsgV) (M : Msg) (w : World) (e : Ending) (w' : World) : Prop := ∃ A cap, Sent t base g r x (L ++ [⟨M, A, cap⟩]) w e w'
set_option maxRecDepth 20000 in
theorem push_calls {base g : Nat} {col : Nat → Nat} {r : Nod} {x : NdX} {L : List MsgV} {w : World} (H : Hid (Nd 101 base g col r x L w)) (hL : L.length ≤ 1000) (i : Nat) (hi : i < r.conf.length) (hc7 : r.conf.length ≤ 7) (hin : i < r.next.length)
    (hb0 : 0 ≤ r.b) (hlen : r.es.length ≤ 4096) (hx : r.next.getD i 0 ≤ 9223372036854775807) :
    Calls Try.prog 102 #[.pointer (some ⟨g, 0, none⟩), .int .i64 i] w (Pushed 101 base g r x L (Rf.push r i) w) := by
  obtain ⟨M, hM⟩ : ∃ M, M = Rf.push r i := ⟨_, rfl⟩
  rw [← hM]
  obtain ⟨cb, co, hcA, hcl, hcc⟩ := H.out.conf_at i hi
  obtain ⟨nb, no, hnA, hnl, hnc⟩ := H.out.next_at i hin
  obtain ⟨id, conf, term, vote, role, leader, b, bt, es, snap, commit, left, wait, votes, next, mtch⟩ := r
  obtain ⟨cA, cc, eA, ec, vA, vc, nA, nc, mA, mc, oA, oc⟩ := x
  simp only at hcA hnA hi hin hcc hnc hb0 hlen hx hc7
  subst hcA; subst hnA
  have hC := H.out.blk.cells
  have hgl := H.out.blk.lt
  dsimp only [nodeC] at hC
  have i1 : (i : Int) < (conf.length : Int) := by omega
  have i2 : (i : Int) < (next.length : Int) := by omega
  unfold Rf.push at hM
  simp only at hM
  generalize hcn : conf.getD i 0 = cn at *
  have HCN := Lib.hid hcn
  clear hcn
  generalize next.getD i 0 = nx at *
  by_cases hle : nx ≤ b
  · rw [if_pos hle] at hM
    have HM := Lib.hid hM
    clear hM
    go_enter Try.func102, Try.ntmps102
    go_wp2_with fail
    go_region_held3 (fun W => W.cell? ⟨g, 1, none⟩ = some (.slice (some ⟨cb, co, none⟩) conf.length cc) ∧ W.cell? ⟨cb, co + i, none⟩ = some (.int .i64 cn) ∧ W.cell? ⟨g, 6, none⟩ = some (.int .i64 b) ∧ W.cell? ⟨g, 7, none⟩ = some (.int .i64 bt) ∧ W.cell? ⟨g, 9, none⟩ = some (.string snap))
      (first | exact ⟨hC 1, hcc, hC 6, hC 7, hC 9⟩ | exact KS.out)
      (first
        | (go_at_call 100
           refine (send_calls (base := base) (col := col) (w := w.drew) (r := ⟨id, conf, term, vote, role, leader, b, bt, es, snap, commit, left, wait, votes, next, mtch⟩) (x := ⟨some ⟨cb, co, none⟩, cc, eA, ec, vA, vc, some ⟨nb, no, none⟩, nc, mA, mc, oA, oc⟩) (L := L) (Lib.hid (H.out.bel (bel_drew (Below.refl _ _)))) hL ⟨5, 0, cn, 0, b, bt, 0, false, [], snap⟩ none 0 (Lib.hid ⟨Nat.le_refl _, RdZ.nil⟩)).mono ?_
           rintro e w1 ⟨rfl, ⟨col1, oA1, oc1, hN1⟩, hb1⟩
           have KS := Lib.hid (And.intro (hN1.blk.cells 1) (And.intro (hN1.conf_cell rfl i hi HCN.out) (And.intro (hN1.blk.cells 6) (And.intro (hN1.blk.cells 7) (hN1.blk.cells 9)))))
           have HN1 := Lib.hid hN1
           have HB1 := Lib.hid hb1
           clear hN1 hb1))
    go_wp2_with fail
    go_end0
    rw [HM.out]
    exact ⟨none, 0, rfl, ⟨col1, oA1, oc1, HN1.out⟩, (bel_base (bel_drew (Below.refl _ _)) H.out.rest.bs).trans HB1.out⟩
  · rw [if_neg hle] at hM
    have HM := Lib.hid hM
    have hw1 : IntKind.i64.wrap (nx - 1) = nx - 1 := IntWalk.i64_in _ (by omega)
    have hlb : b < nx := by omega
    have HT := Lib.hid (term2_calls b bt (nx - 1) eA ec es w H.out.rest.es.rd (by omega))
    clear hM hle
    go_enter Try.func102, Try.ntmps102
    go_wp2_with fail
    refine HT.out.mono ?_
    rintro e w1 ⟨rfl, hb1⟩
    have HB1 := Lib.hid hb1
    have N1 := Lib.hid (H.out.bel hb1)
    have hC1 : ∀ i, w1.cell? ⟨g, i, none⟩ = (#[.int .i64 id, .slice (some ⟨cb, co, none⟩) conf.length cc, .int .i64 term, .int .i64 vote, .int .i64 role, .int .i64 leader, .int .i64 b, .int .i64 bt, .slice eA es.length ec, .string snap, .int .i64 commit, .int .i64 left, .int .i64 wait, .slice vA votes.length vc, .slice (some ⟨nb, no, none⟩) next.length nc, .slice mA mtch.length mc, .slice oA L.length oc] : Array Value)[i]? := N1.out.blk.cells
    have hcc1 := N1.out.conf_cell rfl i hi HCN.out
    have hgl1 := N1.out.blk.lt
    clear hb1 hC hcc HT
    obtain ⟨tm, htm⟩ : ∃ tm, tm = Rf.trm0 (⟨id, conf, term, vote, role, leader, b, bt, es, snap, commit, left, wait, votes, next, mtch⟩) (nx - 1) := ⟨_, rfl⟩
    have htm' : (if Tr.has b bt es (nx - 1) = true then Tr.trm b bt es (nx - 1) else 0) = tm := htm.symm
    simp only [htm']
    rw [← htm] at HM
    clear htm htm'
    go_wp2_with fail
    go_region_held3 (fun W => W.cell? ⟨g, 1, none⟩ = some (.slice (some ⟨cb, co, none⟩) conf.length cc) ∧ W.cell? ⟨cb, co + i, none⟩ = some (.int .i64 cn) ∧ W.cell? ⟨g, 6, none⟩ = some (.int .i64 b) ∧ W.cell? ⟨g, 7, none⟩ = some (.int .i64 bt) ∧ W.cell? ⟨g, 8, none⟩ = some (.slice eA es.length ec) ∧ W.cell? ⟨g, 10, none⟩ = some (.int .i64 commit))
      (first | exact ⟨hC1 1, hcc1, hC1 6, hC1 7, hC1 8, hC1 10⟩ | exact KS.out | exact KT.out)
      (first
        | (go_at_call 34
           refine (slice_calls2 b bt nx 8 eA ec es w1.drew (N1.out.rest.es.rd) (by omega) N1.out.rest.es.le).mono ?_
           rintro e w2 ⟨⟨A2, cap2, rfl, hO2⟩, hb2⟩
           have N2 := Lib.hid (((N1.out.bel (bel_drew (Below.refl _ _))).recol 0).bel hb2)
           have HB2 := Lib.hid hb2
           have HR2 : Hid (_ ∧ RdZ base (recol col w1.drew.heap.size 0) w2 A2 cap2 _) := Lib.hid ⟨hO2.rd.1, RdZ.new (w := w1.drew) hO2 N1.out.rest.bs⟩
           have KS := Lib.hid (And.intro (N2.out.blk.cells 1) (And.intro (N2.out.conf_cell rfl i hi HCN.out) (And.intro (N2.out.blk.cells 6) (And.intro (N2.out.blk.cells 7) (And.intro (N2.out.blk.cells 8) (N2.out.blk.cells 10))))))
           clear hb2 hO2)
        | (go_at_call 100
           refine (send_calls (base := base) (w := w2) (r := ⟨id, conf, term, vote, role, leader, b, bt, es, snap, commit, left, wait, votes, next, mtch⟩) (x := ⟨some ⟨cb, co, none⟩, cc, eA, ec, vA, vc, some ⟨nb, no, none⟩, nc, mA, mc, oA, oc⟩) (L := L) N2 hL ⟨3, 0, cn, 0, nx - 1, tm, commit, false, Tr.cutFrom b bt es nx 8, ByteArray.empty⟩ A2 cap2 HR2).mono ?_
           rintro e w3 ⟨rfl, ⟨col1, oA1, oc1, hN3⟩, hb3⟩
           have KT := Lib.hid (And.intro (hN3.blk.cells 1) (And.intro (hN3.conf_cell rfl i hi HCN.out) (And.intro (hN3.blk.cells 6) (And.intro (hN3.blk.cells 7) (And.intro (hN3.blk.cells 8) (hN3.blk.cells 10))))))
           have HN3 := Lib.hid hN3
           have HB3 := Lib.hid hb3
           clear hN3 hb3))
    go_wp2_with fail
    go_end0
    rw [HM.out]
    have hbs := H.out.rest.bs
    exact ⟨A2, cap2, rfl, ⟨col1, oA1, oc1, HN3.out⟩, ((bel_base HB1.out hbs).trans (bel_base (bel_tr (bel_drew (Below.refl _ _)) HB2.out) N1.out.rest.bs)).trans HB3.out⟩
end Go.Proofs.Ytdladjgdhnkkcaa
