
/-
  3 texts in one.
  Conditions: stated lemma by lemma.
-/
import Derived.Test.YtdladjgdhnkkcaaGreatZRf1ToRf2
import Derived.Deep.RegionHeld3
import Derived.IntWalk
/-
  Contract: the log's next entries, or the whole, are sent to the node at a place.
  Conditions: the node lies in memory, its log is right.
-/
namespace Go.Proofs.YtdladjgdhnkkcaaGreat
open Go.RowKit
set_option linter.unusedVariables false
set_option linter.unusedSimpArgs false
set_option maxHeartbeats 2000000

theorem OwnL.rd {α : Type} [Inhabited α] {L : Lay α} {e : TypeId} {w : World} {base : Nat} {A : Option Addr} {n c : Nat} {xs : List α} (h : OwnL L e w base (.slice A n c) xs) : n = xs.length ∧ RdL L w A xs ∧ n ≤ c ∧ c ≤ maxLen := by
  obtain ⟨A', c', e, h1, h2, h3, _⟩ := h.form
  injection e with e1 e2 e3
  subst e1; subst e2; subst e3
  exact ⟨rfl, h3, h1, h2⟩
theorem Nd.recol {t : TypeId} {base g : Nat} {col : Nat → Nat} {r : Nod} {x : NdX} {L : List MsgV} {w : World} (h : Nd t base g col r x L w) (c : Nat) : Nd t base g (Go.Proofs.YtdladjgdhnkkcaaGreat.recol col w.heap.size c) r x L w :=
  ⟨h.ge, by rw [recol_old h.blk.lt]; exact h.gc, h.blk, h.rest.recol c⟩
theorem Nd.conf_at {t : TypeId} {base g : Nat} {col : Nat → Nat} {r : Nod} {x : NdX} {L : List MsgV} {w : World} (h : Nd t base g col r x L w) (i : Nat) (hi : i < r.conf.length) :
    ∃ b off, x.cA = some ⟨b, off, none⟩ ∧ b < w.heap.size ∧ w.cell? ⟨b, off + i, none⟩ = some (.int .i64 (r.conf.getD i 0)) := h.rest.conf.rd.2.1.int i hi
theorem Nd.conf_cell {t : TypeId} {base g : Nat} {col : Nat → Nat} {r : Nod} {x : NdX} {L : List MsgV} {w : World} (h : Nd t base g col r x L w) {b off : Nat} (hA : x.cA = some ⟨b, off, none⟩) (i : Nat) (hi : i < r.conf.length) {c : Int} (hc : r.conf.getD i 0 = c) :
    w.cell? ⟨b, off + i, none⟩ = some (.int .i64 c) := by
  obtain ⟨b', off', e, _, h'⟩ := h.conf_at i hi
  rw [hA] at e
  injection e with e
  injection e with e1 e2 _
  subst e1; subst e2
  rw [← hc]
  exact h'
theorem Nd.next_at {t : TypeId} {base g : Nat} {col : Nat → Nat} {r : Nod} {x : NdX} {L : List MsgV} {w : World} (h : Nd t base g col r x L w) (i : Nat) (hi : i < r.next.length) :
    ∃ b off, x.nA = some ⟨b, off, none⟩ ∧ b < w.heap.size ∧ w.cell? ⟨b, off + i, none⟩ = some (.int .i64 (r.next.getD i 0)) := h.rest.next.rd.2.1.int i hi

/-- a message is sent, wherever its entries lie -/
def Pushed (t : TypeId) (base g : Nat) (r : Nod) (x : NdX) (L : List MsgV) (M : Msg) (w : World) (e : Ending) (w' : World) : Prop := ∃ A cap, Sent t base g r x (L ++ [⟨M, A, cap⟩]) w e w'
set_option maxRecDepth 20000 in
theorem push_calls {base g : Nat} {col : Nat → Nat} {r : Nod} {x : NdX} {L : List MsgV} {w : World} (H : Hid (Nd 53 base g col r x L w)) (hL : L.length ≤ 1000) (i : Nat) (hi : i < r.conf.length) (hc7 : r.conf.length ≤ 7) (hin : i < r.next.length)
    (hb0 : 0 ≤ r.b) (hlen : r.es.length ≤ 4096) (hx : r.next.getD i 0 ≤ 9223372036854775807) :
    Calls Tryz.prog 62 #[.pointer (some ⟨g, 0, none⟩), .int .i64 i] w (Pushed 53 base g r x L (Rf.push r i) w) := by
  obtain ⟨M, hM⟩ : ∃ M, M = Rf.push r i := ⟨_, rfl⟩
  rw [← hM]
  obtain ⟨cb, co, hcA, hcl, hcc⟩ := H.out.conf_at i hi
  obtain ⟨nb, no, hnA, hnl, hnc⟩ := H.out.next_at i hin
  obtain ⟨id, conf, term, vote, role, leader, b, bt, es, snap, commit, left, wait, votes, next, mtch⟩ := r
  obtain ⟨cA, cc, eA, ec, vA, vc, nA, nc, mA, mc, oA, oc⟩ := x
  simp only at hcA hnA hi hin hcc hnc hb0 hlen hx hc7
  subst hcA; subst hnA
  have hC := H.out.blk.cells
  have hgl := H.out.blk.lt
  dsimp only [nodeC] at hC
  have i1 : (i : Int) < (conf.length : Int) := by omega
  have i2 : (i : Int) < (next.length : Int) := by omega
  unfold Rf.push at hM
  simp only at hM
  generalize hcn : conf.getD i 0 = cn at *
  have HCN := Lib.hid hcn
  clear hcn
  generalize next.getD i 0 = nx at *
  by_cases hle : nx ≤ b
  · rw [if_pos hle] at hM
    have HM := Lib.hid hM
    clear hM
    go_enter Tryz.func62, Tryz.ntmps62
    go_wp2_with fail
    go_region_held3 (fun W => W.cell? ⟨g, 1, none⟩ = some (.slice (some ⟨cb, co, none⟩) conf.length cc) ∧ W.cell? ⟨cb, co + i, none⟩ = some (.int .i64 cn) ∧ W.cell? ⟨g, 6, none⟩ = some (.int .i64 b) ∧ W.cell? ⟨g, 7, none⟩ = some (.int .i64 bt) ∧ W.cell? ⟨g, 9, none⟩ = some (.string snap))
      (first | exact ⟨hC 1, hcc, hC 6, hC 7, hC 9⟩ | exact KS.out)
      (first
        | (go_at_call 56
           refine (send_calls (base := base) (col := col) (w := w.drew) (r := ⟨id, conf, term, vote, role, leader, b, bt, es, snap, commit, left, wait, votes, next, mtch⟩) (x := ⟨some ⟨cb, co, none⟩, cc, eA, ec, vA, vc, some ⟨nb, no, none⟩, nc, mA, mc, oA, oc⟩) (L := L) (Lib.hid (H.out.bel (bel_drew (Below.refl _ _)))) hL ⟨5, 0, cn, 0, b, bt, 0, false, [], snap⟩ none 0 (Lib.hid ⟨Nat.le_refl _, RdZ.nil⟩)).mono ?_
           rintro e w1 ⟨rfl, ⟨col1, oA1, oc1, hN1⟩, hb1⟩
           have KS := Lib.hid (And.intro (hN1.blk.cells 1) (And.intro (hN1.conf_cell rfl i hi HCN.out) (And.intro (hN1.blk.cells 6) (And.intro (hN1.blk.cells 7) (hN1.blk.cells 9)))))
           have HN1 := Lib.hid hN1
           have HB1 := Lib.hid hb1
           clear hN1 hb1))
    go_wp2_with fail
    go_end0
    rw [HM.out]
    exact ⟨none, 0, rfl, ⟨col1, oA1, oc1, HN1.out⟩, (bel_base (bel_drew (Below.refl _ _)) H.out.rest.bs).trans HB1.out⟩
  · rw [if_neg hle] at hM
    have HM := Lib.hid hM
    have hw1 : IntKind.i64.wrap (nx - 1) = nx - 1 := IntWalk.i64_in _ (by omega)
    have hlb : b < nx := by omega
    have HT := Lib.hid (term2_calls b bt (nx - 1) eA ec es w H.out.rest.es.rd (by omega))
    clear hM hle
    go_enter Tryz.func62, Tryz.ntmps62
    go_wp2_with fail
    refine HT.out.mono ?_
    rintro e w1 ⟨rfl, hb1⟩
    have HB1 := Lib.hid hb1
    have N1 := Lib.hid (H.out.bel hb1)
    have hC1 : ∀ i, w1.cell? ⟨g, i, none⟩ = (#[.int .i64 id, .slice (some ⟨cb, co, none⟩) conf.length cc, .int .i64 term, .int .i64 vote, .int .i64 role, .int .i64 leader, .int .i64 b, .int .i64 bt, .slice eA es.length ec, .string snap, .int .i64 commit, .int .i64 left, .int .i64 wait, .slice vA votes.length vc, .slice (some ⟨nb, no, none⟩) next.length nc, .slice mA mtch.length mc, .slice oA L.length oc] : Array Value)[i]? := N1.out.blk.cells
    have hcc1 := N1.out.conf_cell rfl i hi HCN.out
    have hgl1 := N1.out.blk.lt
    clear hb1 hC hcc HT
    obtain ⟨tm, htm⟩ : ∃ tm, tm = Rf.trm0 (⟨id, conf, term, vote, role, leader, b, bt, es, snap, commit, left, wait, votes, next, mtch⟩) (nx - 1) := ⟨_, rfl⟩
    have htm' : (if Tr.has b bt es (nx - 1) = true then Tr.trm b bt es (nx - 1) else 0) = tm := htm.symm
    simp only [htm']
    rw [← htm] at HM
    clear htm htm'
    go_wp2_with fail
    go_region_held3 (fun W => W.cell? ⟨g, 1, none⟩ = some (.slice (some ⟨cb, co, none⟩) conf.length cc) ∧ W.cell? ⟨cb, co + i, none⟩ = some (.int .i64 cn) ∧ W.cell? ⟨g, 6, none⟩ = some (.int .i64 b) ∧ W.cell? ⟨g, 7, none⟩ = some (.int .i64 bt) ∧ W.cell? ⟨g, 8, none⟩ = some (.slice eA es.length ec) ∧ W.cell? ⟨g, 10, none⟩ = some (.int .i64 commit))
      (first | exact ⟨hC1 1, hcc1, hC1 6, hC1 7, hC1 8, hC1 10⟩ | exact KS.out | exact KT.out)
      (first
        | (go_at_call 88
           refine (slice_calls2 b bt nx 8 eA ec es w1.drew (N1.out.rest.es.rd) (by omega) N1.out.rest.es.le).mono ?_
           rintro e w2 ⟨⟨A2, cap2, rfl, hO2⟩, hb2⟩
           have N2 := Lib.hid (((N1.out.bel (bel_drew (Below.refl _ _))).recol 0).bel hb2)
           have HB2 := Lib.hid hb2
           have HR2 : Hid (_ ∧ RdZ base (recol col w1.drew.heap.size 0) w2 A2 cap2 _) := Lib.hid ⟨hO2.rd.1, RdZ.new (w := w1.drew) hO2 N1.out.rest.bs⟩
           have KS := Lib.hid (And.intro (N2.out.blk.cells 1) (And.intro (N2.out.conf_cell rfl i hi HCN.out) (And.intro (N2.out.blk.cells 6) (And.intro (N2.out.blk.cells 7) (And.intro (N2.out.blk.cells 8) (N2.out.blk.cells 10))))))
           clear hb2 hO2)
        | (go_at_call 56
           refine (send_calls (base := base) (w := w2) (r := ⟨id, conf, term, vote, role, leader, b, bt, es, snap, commit, left, wait, votes, next, mtch⟩) (x := ⟨some ⟨cb, co, none⟩, cc, eA, ec, vA, vc, some ⟨nb, no, none⟩, nc, mA, mc, oA, oc⟩) (L := L) N2 hL ⟨3, 0, cn, 0, nx - 1, tm, commit, false, Tr.cutFrom b bt es nx 8, ByteArray.empty⟩ A2 cap2 HR2).mono ?_
           rintro e w3 ⟨rfl, ⟨col1, oA1, oc1, hN3⟩, hb3⟩
           have KT := Lib.hid (And.intro (hN3.blk.cells 1) (And.intro (hN3.conf_cell rfl i hi HCN.out) (And.intro (hN3.blk.cells 6) (And.intro (hN3.blk.cells 7) (And.intro (hN3.blk.cells 8) (hN3.blk.cells 10))))))
           have HN3 := Lib.hid hN3
           have HB3 := Lib.hid hb3
           clear hN3 hb3))
    go_wp2_with fail
    go_end0
    rw [HM.out]
    have hbs := H.out.rest.bs
    exact ⟨A2, cap2, rfl, ⟨col1, oA1, oc1, HN3.out⟩, ((bel_base HB1.out hbs).trans (bel_base (bel_tr (bel_drew (Below.refl _ _)) HB2.out) N1.out.rest.bs)).trans HB3.out⟩
end Go.Proofs.YtdladjgdhnkkcaaGreat

/-
  Contract: entries are sent to all others.
  Conditions: the node lies in memory, its log is right.
-/
namespace Go.Proofs.YtdladjgdhnkkcaaGreat
open Go.RowKit
set_option linter.unusedVariables false
set_option linter.unusedSimpArgs false
set_option maxHeartbeats 2000000

/-- these messages are sent -/
def Said (t : TypeId) (base g : Nat) (r : Nod) (x : NdX) (L : List MsgV) (Ms : List Msg) (w : World) (e : Ending) (w' : World) : Prop :=
  e = .returned (.tuple #[]) ∧ (∃ col oA oc LV, LV.map (·.m) = Ms ∧ Nd t base g col r { x with oA := oA, oc := oc } (L ++ LV) w') ∧ Below base w w'
/-- in the middle of it -/
def PInv (t : TypeId) (base g : Nat) (r : Nod) (x : NdX) (L : List MsgV) (w : World) (k n : Nat) (W : World) : Prop :=
  k + n = r.conf.length ∧ Below base w W ∧ ∃ col oA oc LV, Nd t base g col r { x with oA := oA, oc := oc } (L ++ LV) W ∧ LV.length ≤ k ∧ Rf.pushAll r = LV.map (·.m) ++ Rf.pushes r n k
theorem PInv.skip {t : TypeId} {base g : Nat} {r : Nod} {x : NdX} {L : List MsgV} {w W : World} {k n : Nat} (h : PInv t base g r x L w k (n + 1) W) (hc : r.conf.getD k 0 = r.id) : PInv t base g r x L w (k + 1) n W := by
  obtain ⟨h1, h2, col, oA, oc, LV, h3, h4, h5⟩ := h
  refine ⟨by omega, h2, col, oA, oc, LV, h3, by omega, ?_⟩
  rw [h5]
  simp only [Rf.pushes, if_pos hc, List.nil_append]
theorem PInv.push {t : TypeId} {base g : Nat} {r : Nod} {x : NdX} {L LV : List MsgV} {w W W' : World} {k n : Nat} {oA : Option Addr} {oc : Nat} {e : Ending} (h1 : k + (n + 1) = r.conf.length) (h2 : Below base w W) (h4 : LV.length ≤ k) (h5 : Rf.pushAll r = LV.map (·.m) ++ Rf.pushes r (n + 1) k) (hc : r.conf.getD k 0 ≠ r.id)
    (hp : Pushed t base g r { x with oA := oA, oc := oc } (L ++ LV) (Rf.push r k) W e W') : PInv t base g r x L w (k + 1) n W' := by
  obtain ⟨A, cap, _, ⟨col', oA', oc', hN⟩, hb⟩ := hp
  refine ⟨by omega, h2.trans hb, col', oA', oc', LV ++ [⟨Rf.push r k, A, cap⟩], ?_, by simp; omega, ?_⟩
  · rw [← List.append_assoc]; exact hN
  · rw [h5]
    simp only [Rf.pushes, if_neg hc, List.map_append, List.map_cons, List.map_nil, List.append_assoc]

set_option maxRecDepth 20000 in
theorem pushAll_calls {base g : Nat} {col : Nat → Nat} {r : Nod} {x : NdX} {L : List MsgV} {w : World} (H : Hid (Nd 53 base g col r x L w)) (hL : L.length ≤ 900) (hc0 : 0 < r.conf.length) (hc7 : r.conf.length ≤ 7) (hin : r.next.length = r.conf.length)
    (hb0 : 0 ≤ r.b) (hlen : r.es.length ≤ 4096) (hx : Hid (∀ i, i < r.conf.length → r.next.getD i 0 ≤ 9223372036854775807)) :
    Calls Tryz.prog 37 #[.pointer (some ⟨g, 0, none⟩)] w (Said 53 base g r x L (Rf.pushAll r) w) := by
  have hC : ∀ i, w.cell? ⟨g, i, none⟩ = _ := H.out.blk.cells
  obtain ⟨cb, co, hcA, _, _⟩ := H.out.conf_at 0 hc0
  have HI0 : Hid (PInv 53 base g r x L w 0 r.conf.length w) := Lib.hid ⟨by omega, Below.refl _ _, col, x.oA, x.oc, [], by rw [List.append_nil]; exact H.out, by simp, by simp [Rf.pushAll]⟩
  have c1 : w.cell? ⟨g, 1, none⟩ = some (.slice (some ⟨cb, co, none⟩) r.conf.length x.cc) := by rw [← hcA]; exact H.out.blk.cells 1
  have HCA := Lib.hid hcA
  clear hC hcA
  go_enter Tryz.func37, Tryz.ntmps37
  go_wp2_with fail
  go_loopg [2, 3, 10] r.conf.length (fun n v2 v3 v10 W => ∃ k : Nat, v10 = .int .i64 k ∧ Hid (PInv 53 base g r x L w k n W))
  case atStart => exact ⟨0, rfl, HI0⟩
  case round =>
    obtain ⟨k, rfl, HI⟩ := hrel
    clear c1 HI0
    by_cases hlt : k < r.conf.length
    · have hl : (k : Int) < (r.conf.length : Int) := by omega
      obtain ⟨n, rfl⟩ : ∃ n, gk = n + 1 := ⟨gk - 1, by have := HI.out.1; omega⟩
      obtain ⟨h1, h2, col2, oA2, oc2, LV, h3, h4, h5⟩ := HI.out
      have N := Lib.hid h3
      have H2 := Lib.hid h2
      have H5 := Lib.hid h5
      have c3 := h3.conf_cell HCA.out k hlt rfl
      have c0 : wr.cell? ⟨g, 0, none⟩ = some (.int .i64 r.id) := h3.blk.cells 0
      have HX := Lib.hid (hx.out k hlt)
      clear h2 h3 h5
      by_cases hne : r.conf.getD k 0 = r.id
      · have HNE := Lib.hid hne
        rw [hne] at c3
        clear hne
        go_wp2_with fail
        go_roundg n
        case rel => exact ⟨k + 1, by go_num, Lib.hid (HI.out.skip HNE.out)⟩
        case measure => omega
      · obtain ⟨c, hc⟩ : ∃ c, c = r.conf.getD k 0 := ⟨_, rfl⟩
        rw [← hc] at c3
        have HNE := Lib.hid hne
        have hcn : ¬ c = r.id := by rw [hc]; exact hne
        have hcb : (c != r.id) = true := by rw [bne_iff_ne]; exact hcn
        clear hne hc
        go_wp2_with fail
        refine (push_calls N (by rw [List.length_append]; omega) k hlt hc7 (by rw [hin]; exact hlt) hb0 hlen HX.out).mono ?_
        intro e w1 hp
        have HP := Lib.hid hp
        obtain ⟨A, cap, rfl, _, _⟩ := hp
        go_wp2_with fail
        go_roundg n
        case rel => exact ⟨k + 1, by go_num, Lib.hid (PInv.push h1 H2.out h4 H5.out HNE.out HP.out)⟩
        case measure => omega
    · have hl : ¬ (k : Int) < (r.conf.length : Int) := by omega
      obtain ⟨h1, h2, col2, oA2, oc2, LV, h3, h4, h5⟩ := HI.out
      obtain rfl : gk = 0 := by omega
      simp only [Rf.pushes, List.append_nil] at h5
      have N := Lib.hid h3
      have H2 := Lib.hid h2
      have H5 := Lib.hid h5
      clear h2 h3 h5
      go_wp2_with fail
      go_end0
      exact ⟨rfl, ⟨col2, oA2, oc2, LV, H5.out.symm, N.out⟩, H2.out⟩
end Go.Proofs.YtdladjgdhnkkcaaGreat

/-
  Contracts: a number's place; the node's own numbers.
  Conditions: the node lies in memory, its log is right, its lists are as long as its configuration.
-/
namespace Go.Proofs.YtdladjgdhnkkcaaGreat
open Go.RowKit
set_option linter.unusedVariables false
set_option linter.unusedSimpArgs false
set_option maxHeartbeats 2000000

namespace Rf
theorem idx_eq {v : Int} : ∀ {l : List Int} {k : Nat}, k < l.length → v ∉ l.take k → l.getD k 0 = v → idx v l = k
  | [], k, h, _, _ => by simp at h
  | x :: l, 0, _, _, h => by unfold idx; rw [if_pos (by simpa using h)]
  | x :: l, k + 1, h, hn, hv => by
    unfold idx
    rw [List.take_succ_cons] at hn
    have hx : x ≠ v := fun e => hn (by rw [e]; simp)
    rw [if_neg hx, idx_eq (by simpa using h) (fun hm => hn (by simp [hm])) (by simpa using hv)]
end Rf
theorem index2_calls (A : Option Addr) (cap : Nat) (l : List Int) (v : Int) (w : World) (hR : Hid (RdI w A l)) (hlen : l.length ≤ 9223372036854775807) (hv : Hid (v ∈ l)) :
    Calls Tryz.prog 61 #[.slice A l.length cap, .int .i64 v] w fun e w' => e = .returned (.int .i64 (Rf.idx v l : Nat)) ∧ w = w' := by
  obtain ⟨ix, hix⟩ : ∃ ix, ix = Rf.idx v l := ⟨_, rfl⟩
  rw [← hix]
  have HX := Lib.hid hix
  clear hix
  go_enter Tryz.func61, Tryz.ntmps61
  go_wp2_with fail
  go_loopg [5, 8] l.length (fun g v5 v8 W => W = w ∧ ∃ k : Nat, v8 = .int .i64 k ∧ Hid (k + g = l.length ∧ v ∉ l.take k))
  case atStart => exact ⟨rfl, 0, rfl, Lib.hid ⟨by omega, by simp⟩⟩
  case round =>
    obtain ⟨rfl, k, rfl, HI⟩ := hrel
    by_cases hlt : k < l.length
    · have hl : (k : Int) < (l.length : Int) := by omega
      have hg : 0 < gk := by have := HI.out.1; omega
      obtain ⟨b, off, rfl, _, hc⟩ := hR.out.int k hlt
      have hst : l.take (k + 1) = l.take k ++ [l.getD k default] := by rw [List.take_succ_eq_append_getElem hlt]; simp [List.getD, hlt]
      obtain ⟨x, hx⟩ : ∃ x, x = l.getD k default := ⟨_, rfl⟩
      rw [← hx] at hc hst
      have HST := Lib.hid hst
      clear hst
      by_cases hvx : v = x
      · have hk : ix = k := by rw [HX.out]; exact Rf.idx_eq hlt HI.out.2 (by rw [hvx, hx]; rfl)
        have HK := Lib.hid hk
        subst hvx
        clear hx hk
        go_wp2_with fail
        go_ret
        rw [HK.out]
        exact ⟨rfl, rfl⟩
      · have hxv : (v == x) = false := by rw [beq_eq_false_iff_ne]; exact hvx
        have HN := Lib.hid hvx
        clear hx hvx
        go_wp2_with fail
        go_roundg (gk - 1)
        case rel => exact ⟨rfl, k + 1, by go_num, Lib.hid ⟨by have := HI.out.1; omega, by rw [HST.out, List.mem_append, not_or]; exact ⟨HI.out.2, by simpa using HN.out⟩⟩⟩
        case measure => omega
    · exfalso
      have := HI.out.2
      rw [List.take_of_length_le (by omega)] at this
      exact this hv.out

theorem Nd.next_blk {t : TypeId} {base g : Nat} {col : Nat → Nat} {r : Nod} {x : NdX} {L : List MsgV} {w : World} (h : Nd t base g col r x L w) (h0 : 0 < r.next.length) : ∃ b, x.nA = some ⟨b, 0, none⟩ ∧ g ≠ b ∧ b < w.heap.size ∧ base ≤ b ∧ col b = 3 := by
  obtain ⟨b, c, e, h1, h2, _⟩ := h.rest.next.block h0
  injection e with e
  have hc : col b = 3 := h.rest.nextc b (by rw [e]; rfl)
  exact ⟨b, e, (fun e2 => by have := h.gc; rw [e2, hc] at this; cases this), h2, h1, hc⟩
theorem Nd.mtch_blk {t : TypeId} {base g : Nat} {col : Nat → Nat} {r : Nod} {x : NdX} {L : List MsgV} {w : World} (h : Nd t base g col r x L w) (h0 : 0 < r.mtch.length) : ∃ b, x.mA = some ⟨b, 0, none⟩ ∧ g ≠ b ∧ b < w.heap.size ∧ base ≤ b ∧ col b = 4 := by
  obtain ⟨b, c, e, h1, h2, _⟩ := h.rest.mtch.block h0
  injection e with e
  have hc : col b = 4 := h.rest.mtchc b (by rw [e]; rfl)
  exact ⟨b, e, (fun e2 => by have := h.gc; rw [e2, hc] at this; cases this), h2, h1, hc⟩
/-- a number of next -/
theorem Nd.next_set {t : TypeId} {base g : Nat} {col : Nat → Nat} {r : Nod} {x : NdX} {L : List MsgV} {w : World} (h : Nd t base g col r x L w) {b : Nat} (hA : x.nA = some ⟨b, 0, none⟩) (i : Nat) (hi : i < r.next.length) (n : Int) :
    Nd t base g col { r with next := r.next.set i n } x L (w.setCell ⟨b, i, none⟩ (.int .i64 n)) := by
  obtain ⟨b', hb, hne, hlt, _⟩ := h.next_blk (by omega)
  rw [hA] at hb
  injection hb with hb
  injection hb with e1 _ _
  subst e1
  have ho := h.rest.next
  rw [hA] at ho
  have ho2 := ho.put i n
  rw [show r.next.length = (r.next.set i n).length from by simp, ← hA] at ho2
  refine ⟨h.ge, h.gc, ?_, h.rest.next_set (by simp) hA rfl ho2⟩
  have := h.blk.far (p := ⟨b, i, none⟩) hne (.int .i64 n)
  simpa [nodeC] using this
theorem Nd.mtch_set {t : TypeId} {base g : Nat} {col : Nat → Nat} {r : Nod} {x : NdX} {L : List MsgV} {w : World} (h : Nd t base g col r x L w) {b : Nat} (hA : x.mA = some ⟨b, 0, none⟩) (i : Nat) (hi : i < r.mtch.length) (n : Int) :
    Nd t base g col { r with mtch := r.mtch.set i n } x L (w.setCell ⟨b, i, none⟩ (.int .i64 n)) := by
  obtain ⟨b', hb, hne, hlt, _⟩ := h.mtch_blk (by omega)
  rw [hA] at hb
  injection hb with hb
  injection hb with e1 _ _
  subst e1
  have ho := h.rest.mtch
  rw [hA] at ho
  have ho2 := ho.put i n
  rw [show r.mtch.length = (r.mtch.set i n).length from by simp, ← hA] at ho2
  refine ⟨h.ge, h.gc, ?_, h.rest.mtch_set (by simp) hA rfl ho2⟩
  have := h.blk.far (p := ⟨b, i, none⟩) hne (.int .i64 n)
  simpa [nodeC] using this
theorem Nd.next_cell {t : TypeId} {base g : Nat} {col : Nat → Nat} {r : Nod} {x : NdX} {L : List MsgV} {w : World} (h : Nd t base g col r x L w) {b : Nat} (hA : x.nA = some ⟨b, 0, none⟩) (i : Nat) (hi : i < r.next.length) :
    w.cell? ⟨b, i, none⟩ = some (.int .i64 (r.next.getD i 0)) ∧ w.frozen? ⟨b, i, none⟩ = false := by
  have ho := h.rest.next
  rw [hA] at ho
  exact ho.at_ i hi
theorem Nd.mtch_cell {t : TypeId} {base g : Nat} {col : Nat → Nat} {r : Nod} {x : NdX} {L : List MsgV} {w : World} (h : Nd t base g col r x L w) {b : Nat} (hA : x.mA = some ⟨b, 0, none⟩) (i : Nat) (hi : i < r.mtch.length) :
    w.cell? ⟨b, i, none⟩ = some (.int .i64 (r.mtch.getD i 0)) ∧ w.frozen? ⟨b, i, none⟩ = false := by
  have ho := h.rest.mtch
  rw [hA] at ho
  exact ho.at_ i hi
/-- the node is as r tells, where it lay -/
def Now (t : TypeId) (base g : Nat) (r : Nod) (x : NdX) (L : List MsgV) (w : World) (e : Ending) (w' : World) : Prop :=
  e = .returned (.tuple #[]) ∧ (∃ col, Nd t base g col r x L w') ∧ Below base w w'

set_option maxRecDepth 20000 in
theorem own_calls {base g : Nat} {col : Nat → Nat} {r : Nod} {x : NdX} {L : List MsgV} {w : World} (H : Hid (Nd 53 base g col r x L w)) (hid : Hid (r.id ∈ r.conf)) (hc7 : r.conf.length ≤ 7) (hn : r.next.length = r.conf.length) (hm : r.mtch.length = r.conf.length) (hlen : r.es.length ≤ 4096) (hl0 : 0 ≤ Rf.lastN r) (hl1 : Rf.lastN r ≤ 1099511627776) :
    Calls Tryz.prog 87 #[.pointer (some ⟨g, 0, none⟩)] w (Now 53 base g (Rf.own r) x L w) := by
  have hj := Rf.idx_lt hid.out
  obtain ⟨mb, hmA, hgm, hml, hmb, hmc⟩ := H.out.mtch_blk (by omega)
  obtain ⟨nb, hnA, hgn, hnl, hnb, hnc⟩ := H.out.next_blk (by omega)
  have hmn : mb ≠ nb := fun e => by rw [e, hnc] at hmc; cases hmc
  obtain ⟨cb, co, hcA, _, _⟩ := H.out.conf_at 0 (by omega)
  have HR := Lib.hid (H.out.rest.conf.rd.2.1)
  obtain ⟨q, hq⟩ : ∃ q, q = Rf.own r := ⟨_, rfl⟩
  rw [← hq]
  have HQ := Lib.hid hq
  obtain ⟨id, conf, term, vote, role, leader, b, bt, es, snap, commit, left, wait, votes, next, mtch⟩ := r
  obtain ⟨cA, cc, eA, ec, vA, vc, nA, nc, mA, mc, oA, oc⟩ := x
  simp only at hcA hnA hmA hj hn hm hlen hc7
  subst hcA; subst hnA; subst hmA
  have hC := H.out.blk.cells
  dsimp only [nodeC] at hC
  have HIX := Lib.hid (fun W (hR : Hid (RdI W (some ⟨cb, co, none⟩) conf)) => index2_calls (some ⟨cb, co, none⟩) cc conf id W hR (by omega) hid)
  unfold Rf.own at HQ
  simp only at HQ
  generalize Rf.idx id conf = j at *
  have j1 : (j : Int) < (mtch.length : Int) := by omega
  have j2 : (j : Int) < (next.length : Int) := by omega
  have HLC := Lib.hid (fun W (h : Hid (Nd 53 base g col ⟨id, conf, term, vote, role, leader, b, bt, es, snap, commit, left, wait, votes, next, mtch⟩ ⟨some ⟨cb, co, none⟩, cc, eA, ec, vA, vc, some ⟨nb, 0, none⟩, nc, some ⟨mb, 0, none⟩, mc, oA, oc⟩ L W)) => nlast_calls h hlen)
  generalize Rf.lastN (⟨id, conf, term, vote, role, leader, b, bt, es, snap, commit, left, wait, votes, next, mtch⟩ : Nod) = ln at *
  have hw1 : IntKind.i64.wrap (ln + 1) = ln + 1 := IntWalk.i64_in _ (by omega)
  have HGM := Lib.hid hgm
  have HGN := Lib.hid hgn
  have HMN := Lib.hid hmn
  have HMB := Lib.hid hmb
  have HNB := Lib.hid hnb
  clear hq hgm hgn hmn hmb hnb hmc hnc
  go_enter Tryz.func87, Tryz.ntmps87
  go_wp2_with fail
  go_quiet ((go_at_call 61; exact quiet_of_eq (HIX.out _ (Lib.hid (HR.out.bel (bel_drewN (Below.refl _ _) _))))))
  have N1 := Lib.hid (H.out.bel (bel_drewN (Below.refl _ w) nq))
  have HB1 := Lib.hid (bel_drewN (Below.refl w.heap.size w) nq)
  generalize w.drewN nq = w1 at *
  have hC1 : ∀ i, w1.cell? ⟨g, i, none⟩ = (#[.int .i64 id, .slice (some ⟨cb, co, none⟩) conf.length cc, .int .i64 term, .int .i64 vote, .int .i64 role, .int .i64 leader, .int .i64 b, .int .i64 bt, .slice eA es.length ec, .string snap, .int .i64 commit, .int .i64 left, .int .i64 wait, .slice vA votes.length vc, .slice (some ⟨nb, 0, none⟩) next.length nc, .slice (some ⟨mb, 0, none⟩) mtch.length mc, .slice oA L.length oc] : Array Value)[i]? := N1.out.blk.cells
  clear hC H HR HIX
  go_wp2_with fail
  go_region_held3 (fun W => W.cell? ⟨g, 14, none⟩ = some (.slice (some ⟨nb, 0, none⟩) next.length nc) ∧ W.cell? ⟨g, 15, none⟩ = some (.slice (some ⟨mb, 0, none⟩) mtch.length mc))
    (first | exact ⟨hC1 14, hC1 15⟩ | exact K2.out | exact K3.out | exact ⟨((N3.out.blk.far HGM.out _).cells 14), ((N3.out.blk.far HGM.out _).cells 15)⟩ | exact ⟨(((N3.out.blk.far HGM.out _).far HGN.out _).cells 14), (((N3.out.blk.far HGM.out _).far HGN.out _).cells 15)⟩)
    (first
      | (go_at_call 60
         refine (HLC.out w2 N2).mono ?_
         rintro e w3 ⟨rfl, hb3⟩
         have N3 := Lib.hid (N2.out.bel hb3)
         have HB3 := Lib.hid (bel_tr HB2.out hb3)
         have K3 := Lib.hid (And.intro (N3.out.blk.cells 14) (N3.out.blk.cells 15))
         obtain ⟨m1, m2⟩ := N3.out.mtch_cell rfl j (by simpa using (show j < mtch.length by omega))
         obtain ⟨n1, n2⟩ := N3.out.next_cell rfl j (by simpa using (show j < next.length by omega))
         have hgn := HMN.out
         clear hb3)
      | (go_at_call 60
         refine (HLC.out w1.drew (Lib.hid (N1.out.bel (bel_drew (Below.refl _ _))))).mono ?_
         rintro e w2 ⟨rfl, hb2⟩
         have N2 := Lib.hid ((N1.out.bel (bel_drew (Below.refl _ _))).bel hb2)
         have HB2 := Lib.hid (bel_tr (bel_drew HB1.out) hb2)
         have K2 := Lib.hid (And.intro (N2.out.blk.cells 14) (N2.out.blk.cells 15))
         clear hb2))
  go_wp2_with fail
  go_end0
  refine ⟨rfl, ⟨col, ?_⟩, ((bel_base HB3.out ?_).setCell HMB.out _).setCell HNB.out _⟩
  · rw [HQ.out]
    exact (N3.out.mtch_set rfl j (by show j < mtch.length; omega) _).next_set rfl j (by show j < next.length; omega) _
  · exact Nat.le_trans HNB.out (Nat.le_of_lt hnl)
end Go.Proofs.YtdladjgdhnkkcaaGreat
