
/-
  Contracts of the reference of layer 14: a message more; what only candidates and leaders have is struck; a leader's word; a node's place.
  Conditions: the node lies in memory.
-/
import Derived.Test.YtdladjgdhnkkcaaGreatZRf6ToRf9
import Derived.Test.YtdladjgdhnkkcaaGreatZRf10
import Derived.Test.YtdladjgdhnkkcaaGreatZRf23
import Derived.Deep.Cut
namespace Go.Proofs.YtdladjgdhnkkcaaGreat
open Go.RowKit
set_option linter.unusedVariables false
set_option linter.unusedSimpArgs false
set_option maxHeartbeats 4000000

/-- other blocks than the node's and what it sends are as they were -/
def Far (g : Nat) (v : Value) (w w' : World) : Prop := ∀ b, b < w.heap.size → b ≠ g → v.ownBlock ≠ some b → w'.heap[b]? = w.heap[b]?

set_option maxRecDepth 20000 in
theorem say_calls2 {base g : Nat} {col : Nat → Nat} {r : Nod} {x : NdX} {L : List MsgV} {w : World} (H : Hid (Nd 36 base g col r x L w)) (hL : L.length ≤ 1000) (m : Msg) (A : Option Addr) (cap : Nat) (hm : Hid (m.es.length ≤ cap ∧ RdZ base col w A cap m.es)) :
    Calls Tryz.prog 28 #[.pointer (some ⟨g, 0, none⟩), msgV m A cap] w (fun e w' => Sent 36 base g r x (L ++ [⟨Rf.say r m, A, cap⟩]) w e w' ∧ Far g (.slice x.oA L.length x.oc) w w') := by
  obtain ⟨id, conf, term, vote, role, leader, b, bt, es, snap, commit, left, wait, votes, next, mtch⟩ := r
  obtain ⟨mk, ms, md, mt, mi, ml, mc, my, me, mdt⟩ := m
  have hc := H.out.blk.cells
  have hlt := H.out.blk.lt
  have hgf := H.out.blk.free
  dsimp only [nodeC] at hc
  go_enter Tryz.func28, Tryz.ntmps28
  go_upto_region 3 with (fail)
  have HB := Lib.hid (bel_new (Below.refl w.heap.size w) (.cells #[.int .i64 mk, .int .i64 id, .int .i64 md, .int .i64 term, .int .i64 mi, .int .i64 ml, .int .i64 mc, .bool my, .slice A me.length cap, .string mdt] 30))
  have hm1 := (Blk.new w 30 #[.int .i64 mk, .int .i64 id, .int .i64 md, .int .i64 term, .int .i64 mi, .int .i64 ml, .int .i64 mc, .bool my, .slice A me.length cap, .string mdt])
  have hs1 : (w.alloc (.cells #[.int .i64 mk, .int .i64 id, .int .i64 md, .int .i64 term, .int .i64 mi, .int .i64 ml, .int .i64 mc, .bool my, .slice A me.length cap, .string mdt] 30)).heap.size = w.heap.size + 1 := by simp
  generalize w.alloc (.cells #[.int .i64 mk, .int .i64 id, .int .i64 md, .int .i64 term, .int .i64 mi, .int .i64 ml, .int .i64 mc, .bool my, .slice A me.length cap, .string mdt] 30) = W at *
  have N1 := Lib.hid (H.out.bel HB.out)
  have Z1 := Lib.hid (And.intro hm.out.1 (hm.out.2.bel HB.out))
  have hW : W.drew.heap.size = w.heap.size + 1 := hs1
  have HS := Lib.hid hW
  have c1 : ∀ i, W.cell? ⟨g, i, none⟩ = (#[.int .i64 id, .slice x.cA conf.length x.cc, .int .i64 term, .int .i64 vote, .int .i64 role, .int .i64 leader, .int .i64 b, .int .i64 bt, .slice x.eA es.length x.ec, .string snap, .int .i64 commit, .int .i64 left, .int .i64 wait, .slice x.vA votes.length x.vc, .slice x.nA next.length x.nc, .slice x.mA mtch.length x.mc, .slice x.oA L.length x.oc] : Array Value)[i]? := N1.out.blk.cells
  have f1 : ∀ i, W.frozen? ⟨g, i, none⟩ = false := N1.out.blk.free
  have m1 := hm1.cells
  have hg1 : g < W.heap.size := N1.out.blk.lt
  have HG := Lib.hid hg1
  clear hc hgf hm1 hs1 hW H hm
  go_region_law (first
    | (refine step_appAt 32 _ 104 Tryz.underlying32 infoM rfl rfl (.tmp 20) (.tmp 22) rfl base _ L rfl (N1.out.rest.out.kept (bel_drew (bel_new (Below.refl _ W) (.cells #[.int .i64 mk, .int .i64 id, .int .i64 md, .int .i64 term, .int .i64 mi, .int .i64 ml, .int .i64 mc, .bool my, .slice A me.length cap, .string mdt] 30)))) ⟨W.heap.size, 0, none⟩ 1 1 [⟨⟨mk, id, md, term, mi, ml, mc, my, me, mdt⟩, A, cap⟩] rfl rfl (rdL_lit W _ _ (by simp [maxLen]) _ rfl) (by simp [maxLen]; omega) (by simp; omega) (by have := N1.out.rest.bs; simp; omega) ?_
       intro v1 w1 ho1 hg1 h31
       obtain ⟨A1, cp1, rfl, _, _, _, _⟩ := ho1.form
       have HB2 := Lib.hid (bel_drew (bel_new (Below.refl W.heap.size W) (.cells #[.int .i64 mk, .int .i64 id, .int .i64 md, .int .i64 term, .int .i64 mi, .int .i64 ml, .int .i64 mc, .bool my, .slice A me.length cap, .string mdt] 30)))
       have HP := Lib.hid ((N1.out.bel HB2.out).out_put ho1 hg1 h31 ⟨Z1.out.1, Z1.out.2.bel HB2.out⟩)
       have c2 : ∀ i, w1.cell? ⟨g, i, none⟩ = (#[.int .i64 id, .slice x.cA conf.length x.cc, .int .i64 term, .int .i64 vote, .int .i64 role, .int .i64 leader, .int .i64 b, .int .i64 bt, .slice x.eA es.length x.ec, .string snap, .int .i64 commit, .int .i64 left, .int .i64 wait, .slice x.vA votes.length x.vc, .slice x.nA next.length x.nc, .slice x.mA mtch.length x.mc, .slice x.oA L.length x.oc] : Array Value)[i]? := HP.out.1.cells
       have f2 : ∀ i, w1.frozen? ⟨g, i, none⟩ = false := HP.out.1.free
       have HG1 := Lib.hid hg1
       clear ho1 hg1 h31))
  all_goals
    go_wp2_with fail
    go_end0
    refine ⟨⟨rfl, ⟨_, A1, cp1, HP.out.2.2 _ (by simp)⟩, ?_⟩, fun b hb hne hnb => ?_⟩
    · have hbs := N1.out.rest.bs
      have h1 : Below base w W := HB.out.mono (by have := N1.out.ge; have := HS.out; omega)
      exact ((h1.trans (HB2.out.mono hbs)).trans HP.out.2.1).setCell N1.out.ge _
    · have h1 : b < W.heap.size := Nat.lt_of_lt_of_le hb HB.out.size
      exact (far_sets hne 16 _).trans ((HG1.out.block b (Nat.lt_of_lt_of_le h1 HB2.out.size) (fun e => hnb e.symm)).trans ((HB2.out.block b h1).trans (HB.out.block b hb)))
theorem say_calls {base g : Nat} {col : Nat → Nat} {r : Nod} {x : NdX} {L : List MsgV} {w : World} (H : Hid (Nd 36 base g col r x L w)) (hL : L.length ≤ 1000) (m : Msg) (A : Option Addr) (cap : Nat) (hm : Hid (m.es.length ≤ cap ∧ RdZ base col w A cap m.es)) :
    Calls Tryz.prog 28 #[.pointer (some ⟨g, 0, none⟩), msgV m A cap] w (Sent 36 base g r x (L ++ [⟨Rf.say r m, A, cap⟩]) w) := (say_calls2 H hL m A cap hm).mono fun _ _ h => h.1

/-- what only candidates and leaders have is struck -/
def Rf.clear (r : Nod) : Nod := { r with votes := [], next := [], mtch := [] }
/-- no votes, next, match -/
abbrev NdX.bare (x : NdX) : NdX := { x with vA := none, vc := 0, nA := none, nc := 0, mA := none, mc := 0 }
set_option maxRecDepth 20000 in
theorem clear_calls {base g : Nat} {col : Nat → Nat} {r : Nod} {x : NdX} {L : List MsgV} {w : World} (H : Hid (Nd 36 base g col r x L w)) :
    Calls Tryz.prog 27 #[.pointer (some ⟨g, 0, none⟩)] w (Alone 36 base g (Rf.clear r) x.bare L w) := by
  obtain ⟨id, conf, term, vote, role, leader, b, bt, es, snap, commit, left, wait, votes, next, mtch⟩ := r
  have hC := H.out.blk.cells
  dsimp only [nodeC] at hC
  have hgl := H.out.blk.lt
  have hgf := H.out.blk.free
  go_enter Tryz.func27, Tryz.ntmps27
  go_wp2_with fail
  go_end0
  have hR := ((H.out.run.set 13 (.slice none 0 0)).set 14 (.slice none 0 0)).set 15 (.slice none 0 0)
  exact ⟨rfl, ⟨col, hR.nd0 _ (by simp only [nodeC, Rf.clear, List.setIfInBounds_toArray, List.set_cons_succ, List.set_cons_zero, List.length_nil]) rfl rfl rfl rfl rfl⟩, hR.bel, fun b hb hne => by rw [far_sets hne, far_sets hne, far_sets hne]⟩

/-- a leader's word -/
def Rf.heard (r : Nod) (m : Msg) : Nod := { Rf.clear r with role := 0, leader := m.src, left := r.wait }
set_option maxRecDepth 20000 in
theorem heard_calls {base g : Nat} {col : Nat → Nat} {r : Nod} {x : NdX} {L : List MsgV} {w : World} (H : Hid (Nd 36 base g col r x L w)) (m : Msg) (A : Option Addr) (cap : Nat) :
    Calls Tryz.prog 72 #[.pointer (some ⟨g, 0, none⟩), msgV m A cap] w (Alone 36 base g (Rf.heard r m) x.bare L w) := by
  obtain ⟨id, conf, term, vote, role, leader, b, bt, es, snap, commit, left, wait, votes, next, mtch⟩ := r
  obtain ⟨mk, ms, md, mt, mi, ml, mc, my, me, mdt⟩ := m
  have N1 := Lib.hid (H.out.bel (bel_new (Below.refl w.heap.size w) (.cells #[.int .i64 mk, .int .i64 ms, .int .i64 md, .int .i64 mt, .int .i64 mi, .int .i64 ml, .int .i64 mc, .bool my, .slice A me.length cap, .string mdt] 30)))
  have M1 := Lib.hid (Blk.new w 30 #[.int .i64 mk, .int .i64 ms, .int .i64 md, .int .i64 mt, .int .i64 mi, .int .i64 ml, .int .i64 mc, .bool my, .slice A me.length cap, .string mdt])
  have HB1 := Lib.hid (bel_new (Below.refl w.heap.size w) (.cells #[.int .i64 mk, .int .i64 ms, .int .i64 md, .int .i64 mt, .int .i64 mi, .int .i64 ml, .int .i64 mc, .bool my, .slice A me.length cap, .string mdt] 30))
  have hgl := H.out.blk.lt
  go_enter Tryz.func72, Tryz.ntmps72
  go_wp2_with fail
  generalize w.alloc (.cells #[.int .i64 mk, .int .i64 ms, .int .i64 md, .int .i64 mt, .int .i64 mi, .int .i64 ml, .int .i64 mc, .bool my, .slice A me.length cap, .string mdt] 30) = w1 at *
  refine (clear_calls N1).mono ?_
  rintro e w2 ⟨rfl, ⟨col2, hN2⟩, hb2, hf2⟩
  have N2 := Lib.hid hN2
  have HB2 := Lib.hid hb2
  have HF2 := Lib.hid hf2
  have hne : w.heap.size ≠ g := by omega
  have m2 : ∀ i, w2.cell? ⟨w.heap.size, i, none⟩ = (#[.int .i64 mk, .int .i64 ms, .int .i64 md, .int .i64 mt, .int .i64 mi, .int .i64 ml, .int .i64 mc, .bool my, .slice A me.length cap, .string mdt] : Array Value)[i]? := Blk.cells (w := w2) (g := w.heap.size) ((hf2 _ M1.out.lt hne).trans M1.out)
  have hC : ∀ i, w2.cell? ⟨g, i, none⟩ = (#[.int .i64 id, .slice x.cA conf.length x.cc, .int .i64 term, .int .i64 vote, .int .i64 role, .int .i64 leader, .int .i64 b, .int .i64 bt, .slice x.eA es.length x.ec, .string snap, .int .i64 commit, .int .i64 left, .int .i64 wait, .slice none 0 0, .slice none 0 0, .slice none 0 0, .slice x.oA L.length x.oc] : Array Value)[i]? := N2.out.blk.cells
  have hg2 := N2.out.blk.lt
  have hgf := N2.out.blk.free
  clear hN2 hb2 hf2 hgl
  go_wp2_with fail
  go_end0
  have hR := ((N2.out.run.set 4 (.int .i64 0)).set 5 (.int .i64 ms)).set 11 (.int .i64 wait)
  refine ⟨rfl, ⟨col2, hR.nd _ ?_ rfl rfl rfl rfl rfl⟩, ?_, fun b hb hn => ?_⟩
  · simp only [nodeC, Rf.clear, Rf.heard, List.setIfInBounds_toArray, List.set_cons_succ, List.set_cons_zero, List.length_nil]
  · exact ((HB1.out.mono H.out.rest.bs).trans HB2.out).trans hR.bel
  · rw [far_sets hn, far_sets hn, far_sets hn, HF2.out b (Nat.lt_of_lt_of_le hb HB1.out.size) hn]
    exact HB1.out.block b hb

/-- a number's first place: the rest from k on is asked -/
theorem place_calls (r : Nod) (x : NdX) (v : Int) (w : World) (hR : Hid (RdI w x.cA r.conf)) (hlen : r.conf.length ≤ 9223372036854775807) (hv : Hid (v ∈ r.conf)) :
    Calls Tryz.prog 76 #[raftV r x, .int .i64 v] w fun e w' => e = .returned (.int .i64 (Rf.idx v r.conf : Nat)) ∧ Below w.heap.size w w' := by
  obtain ⟨id, conf, term, vote, role, leader, b, bt, es, snap, commit, left, wait, votes, next, mtch⟩ := r
  obtain ⟨cA, cc, eA, ec, vA, vc, nA, nc, mA, mc, oA, oc⟩ := x
  simp only at hR hlen hv
  have HB1 := Lib.hid (bel_new (Below.refl w.heap.size w) (.cells #[.int .i64 id, .slice cA conf.length cc, .int .i64 term, .int .i64 vote, .int .i64 role, .int .i64 leader, .int .i64 b, .int .i64 bt, .slice eA es.length ec, .string snap, .int .i64 commit, .int .i64 left, .int .i64 wait, .slice vA votes.length vc, .slice nA next.length nc, .slice mA mtch.length mc] 28))
  have HK1 := Lib.hid (Blk.new w 28 #[.int .i64 id, .slice cA conf.length cc, .int .i64 term, .int .i64 vote, .int .i64 role, .int .i64 leader, .int .i64 b, .int .i64 bt, .slice eA es.length ec, .string snap, .int .i64 commit, .int .i64 left, .int .i64 wait, .slice vA votes.length vc, .slice nA next.length nc, .slice mA mtch.length mc])
  have HR1 := Lib.hid (hR.out.bel HB1.out)
  obtain ⟨ix, hix⟩ : ∃ ix, ix = Rf.idx v conf := ⟨_, rfl⟩
  rw [← hix]
  have HX := Lib.hid hix
  clear hix
  go_enter Tryz.func76, Tryz.ntmps76
  go_upto_region 1 with (fail)
  generalize w.alloc (.cells #[.int .i64 id, .slice cA conf.length cc, .int .i64 term, .int .i64 vote, .int .i64 role, .int .i64 leader, .int .i64 b, .int .i64 bt, .slice eA es.length ec, .string snap, .int .i64 commit, .int .i64 left, .int .i64 wait, .slice vA votes.length vc, .slice nA next.length nc, .slice mA mtch.length mc] 28) = w1 at *
  have hk : ∀ i, w1.cell? ⟨w.heap.size, i, none⟩ = (#[.int .i64 id, .slice cA conf.length cc, .int .i64 term, .int .i64 vote, .int .i64 role, .int .i64 leader, .int .i64 b, .int .i64 bt, .slice eA es.length ec, .string snap, .int .i64 commit, .int .i64 left, .int .i64 wait, .slice vA votes.length vc, .slice nA next.length nc, .slice mA mtch.length mc] : Array Value)[i]? := HK1.out.cells
  go_wp2_with fail
  go_loopg [5] conf.length (fun g v5 W => W = w1 ∧ ∃ k : Nat, v5 = .int .i64 k ∧ Hid (k + g = conf.length ∧ v ∉ conf.take k))
  case atStart => exact ⟨rfl, 0, rfl, Lib.hid ⟨by omega, by simp⟩⟩
  case round =>
    obtain ⟨rfl, k, rfl, HI⟩ := hrel
    by_cases hlt : k < conf.length
    · have hl : (k : Int) < (conf.length : Int) := by omega
      have hg : 0 < gk := by have := HI.out.1; omega
      obtain ⟨cb, co, hcA, _, hc⟩ := HR1.out.int k hlt
      have k1 : wr.cell? ⟨w.heap.size, 1, none⟩ = some (.slice (some ⟨cb, co, none⟩) conf.length cc) := by rw [← hcA]; exact hk 1
      have hst : conf.take (k + 1) = conf.take k ++ [conf.getD k default] := by rw [List.take_succ_eq_append_getElem hlt]; simp [List.getD, hlt]
      obtain ⟨y, hy⟩ : ∃ y, y = conf.getD k default := ⟨_, rfl⟩
      rw [← hy] at hc hst
      have HST := Lib.hid hst
      clear hst hcA hk
      by_cases hvx : y = v
      · have hkk : ix = k := by rw [HX.out]; exact Rf.idx_eq hlt HI.out.2 (by rw [← hvx, hy]; rfl)
        have HK := Lib.hid hkk
        subst hvx
        clear hy hkk
        go_wp2_with fail
        go_ret
        rw [HK.out]
        exact ⟨rfl, HB1.out⟩
      · have hxv : (y == v) = false := by rw [beq_eq_false_iff_ne]; exact hvx
        have HN := Lib.hid hvx
        clear hy hvx
        go_wp2_with fail
        go_roundg (gk - 1)
        case rel => exact ⟨rfl, k + 1, by go_num, Lib.hid ⟨by have := HI.out.1; omega, by rw [HST.out, List.mem_append, not_or]; exact ⟨HI.out.2, by simpa using fun e => HN.out e.symm⟩⟩⟩
        case measure => omega
    · exfalso
      have := HI.out.2
      rw [List.take_of_length_le (by omega)] at this
      exact this hv.out
end Go.Proofs.YtdladjgdhnkkcaaGreat
