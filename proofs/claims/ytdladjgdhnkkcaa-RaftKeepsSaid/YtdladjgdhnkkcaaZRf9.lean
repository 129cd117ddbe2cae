
/-
  Contracts: a leader has spoken; a message of an older term.
  Conditions: the node lies in memory.
-/
import Derived.Test.YtdladjgdhnkkcaaZRf4
import Derived.Test.YtdladjgdhnkkcaaZRf5
namespace Go.Proofs.Ytdladjgdhnkkcaa
open Go.RowKit
set_option linter.unusedVariables false
set_option linter.unusedSimpArgs false
set_option maxHeartbeats 2000000

/-- the node is as r tells, and no other block has changed -/
def Alone (t : TypeId) (base g : Nat) (r : Nod) (x : NdX) (L : List MsgV) (w : World) (e : Ending) (w' : World) : Prop :=
  e = .returned (.tuple #[]) ∧ (∃ col, Nd t base g col r x L w') ∧ Below base w w' ∧ ∀ b, b < w.heap.size → b ≠ g → w'.heap[b]? = w.heap[b]?
theorem far_sets {w : World} {g b : Nat} (hb : b ≠ g) (i : Nat) (v : Value) : (w.setCell ⟨g, i, none⟩ v).heap[b]? = w.heap[b]? := Below.heap_setCell w ⟨g, i, none⟩ v b hb

set_option maxRecDepth 20000 in
theorem follow_calls14 {base g : Nat} {col : Nat → Nat} {r : Nod} {x : NdX} {L : List MsgV} {w : World} (H : Hid (Nd 101 base g col r x L w)) (m : Msg) (A : Option Addr) (cap : Nat) :
    Calls Try.prog 103 #[.pointer (some ⟨g, 0, none⟩), msgV m A cap] w (Alone 101 base g (Rf.follow r m) { x with vA := none, vc := 0 } L w) := by
  obtain ⟨id, conf, term, vote, role, leader, b, bt, es, snap, commit, left, wait, votes, next, mtch⟩ := r
  obtain ⟨mk, ms, md, mt, mi, ml, mc, my, me, mdt⟩ := m
  have hC := H.out.blk.cells
  dsimp only [nodeC] at hC
  have hgl := H.out.blk.lt
  have hgf := H.out.blk.free
  go_enter Try.func103, Try.ntmps103
  go_wp2_with fail
  have HB := Lib.hid (bel_drew (bel_new (Below.refl w.heap.size w) (.cells #[.int .i64 mk, .int .i64 ms, .int .i64 md, .int .i64 mt, .int .i64 mi, .int .i64 ml, .int .i64 mc, .bool my, .slice A me.length cap, .string mdt] 53)))
  go_region
  all_goals
    go_end0
    refine ⟨rfl, ⟨col, H.out.ge, H.out.gc, (((((H.out.blk.set 4 _).set 13 _).set 5 _).set 11 _).alloc _).drewN 1, ?_⟩, ?_, fun b hb hne => ?_⟩
    · have h1 := ((((H.out.rest.set1 (p := ⟨g, 4, none⟩) H.out.gc (.int .i64 0)).set1 (p := ⟨g, 13, none⟩) H.out.gc (.slice none 0 0)).set1 (p := ⟨g, 5, none⟩) H.out.gc (.int .i64 ms)).set1 (p := ⟨g, 11, none⟩) H.out.gc (.int .i64 wait)).votes0
      exact (h1.bel (bel_drew (bel_new (Below.refl _ _) _))).plain _ rfl rfl rfl rfl rfl
    · have hge := H.out.ge
      exact bel_drew ((((((Below.refl base w).setCell hge _).setCell hge _).setCell hge _).setCell hge _).alloc (by simpa using H.out.rest.bs) _)
    · show (World.alloc _ _).heap[b]? = _
      rw [Below.heap_alloc _ _ _ (by simpa using hb), far_sets hne, far_sets hne, far_sets hne, far_sets hne]

set_option maxRecDepth 20000 in
theorem late_calls {base g : Nat} {col : Nat → Nat} {r : Nod} {x : NdX} {L : List MsgV} {w : World} (H : Hid (Nd 101 base g col r x L w)) (hL : L.length ≤ 900) (m : Msg) (A : Option Addr) (cap : Nat) :
    Calls Try.prog 81 #[.pointer (some ⟨g, 0, none⟩), msgV m A cap] w (Said 101 base g r x L (Rf.late r m) w) := by
  obtain ⟨mk, ms, md, mt, mi, ml, mc, my, me, mdt⟩ := m
  obtain ⟨Ms, hMs⟩ : ∃ Ms, Ms = Rf.late r ⟨mk, ms, md, mt, mi, ml, mc, my, me, mdt⟩ := ⟨_, rfl⟩
  rw [← hMs]
  unfold Rf.late at hMs
  simp only at hMs
  have N1 := Lib.hid (H.out.bel (bel_new (Below.refl w.heap.size w) (.cells #[.int .i64 mk, .int .i64 ms, .int .i64 md, .int .i64 mt, .int .i64 mi, .int .i64 ml, .int .i64 mc, .bool my, .slice A me.length cap, .string mdt] 53)))
  have HB1 := Lib.hid (bel_new (Below.refl w.heap.size w) (.cells #[.int .i64 mk, .int .i64 ms, .int .i64 md, .int .i64 mt, .int .i64 mi, .int .i64 ml, .int .i64 mc, .bool my, .slice A me.length cap, .string mdt] 53))
  have HBS := Lib.hid H.out.rest.bs
  by_cases h1 : mk = 1
  · rw [if_pos h1] at hMs
    have HM := Lib.hid hMs
    clear hMs
    subst h1
    go_enter Try.func81, Try.ntmps81
    go_wp2_with fail
    refine (send_calls N1 (by omega) ⟨2, 0, ms, 0, 0, 0, 0, false, [], ByteArray.empty⟩ none 0 (Lib.hid ⟨Nat.le_refl _, RdZ.nil⟩)).mono ?_
    rintro e w1 ⟨rfl, ⟨col1, oA1, oc1, hN1⟩, hb1⟩
    have HN1 := Lib.hid hN1
    have HB2 := Lib.hid hb1
    clear hN1 hb1
    go_wp2_with fail
    go_end0
    exact ⟨rfl, ⟨col1, oA1, oc1, _, by rw [HM.out]; rfl, HN1.out⟩, (bel_base HB1.out HBS.out).trans HB2.out⟩
  · rw [if_neg h1] at hMs
    have h1b : (mk == 1) = false := by rw [beq_eq_false_iff_ne]; exact h1
    by_cases h3 : mk = 3
    · rw [if_pos (.inl h3)] at hMs
      have HM := Lib.hid hMs
      clear hMs h1 h1b
      subst h3
      go_enter Try.func81, Try.ntmps81
      go_wp2_with fail
      refine (send_calls N1 (by omega) ⟨4, 0, ms, 0, 0, 0, 0, false, [], ByteArray.empty⟩ none 0 (Lib.hid ⟨Nat.le_refl _, RdZ.nil⟩)).mono ?_
      rintro e w1 ⟨rfl, ⟨col1, oA1, oc1, hN1⟩, hb1⟩
      have HN1 := Lib.hid hN1
      have HB2 := Lib.hid hb1
      clear hN1 hb1
      go_wp2_with fail
      go_end0
      exact ⟨rfl, ⟨col1, oA1, oc1, _, by rw [HM.out]; rfl, HN1.out⟩, (bel_base HB1.out HBS.out).trans HB2.out⟩
    · have h3b : (mk == 3) = false := by rw [beq_eq_false_iff_ne]; exact h3
      by_cases h5 : mk = 5
      · rw [if_pos (.inr h5)] at hMs
        have HM := Lib.hid hMs
        clear hMs h1 h1b h3 h3b
        subst h5
        go_enter Try.func81, Try.ntmps81
        go_wp2_with fail
        refine (send_calls N1 (by omega) ⟨4, 0, ms, 0, 0, 0, 0, false, [], ByteArray.empty⟩ none 0 (Lib.hid ⟨Nat.le_refl _, RdZ.nil⟩)).mono ?_
        rintro e w1 ⟨rfl, ⟨col1, oA1, oc1, hN1⟩, hb1⟩
        have HN1 := Lib.hid hN1
        have HB2 := Lib.hid hb1
        clear hN1 hb1
        go_wp2_with fail
        go_end0
        exact ⟨rfl, ⟨col1, oA1, oc1, _, by rw [HM.out]; rfl, HN1.out⟩, (bel_base HB1.out HBS.out).trans HB2.out⟩
      · rw [if_neg (fun h => h.elim h3 h5)] at hMs
        have h5b : (mk == 5) = false := by rw [beq_eq_false_iff_ne]; exact h5
        have HM := Lib.hid hMs
        clear hMs h1 h3 h5
        go_enter Try.func81, Try.ntmps81
        go_wp2_with fail
        go_end0
        exact ⟨rfl, ⟨col, x.oA, x.oc, [], by rw [HM.out]; rfl, by rw [List.append_nil]; exact N1.out⟩, bel_base HB1.out HBS.out⟩
end Go.Proofs.Ytdladjgdhnkkcaa
