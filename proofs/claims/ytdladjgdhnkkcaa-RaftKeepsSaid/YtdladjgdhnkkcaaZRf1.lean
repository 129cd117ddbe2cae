
/-
  Contracts: copies of lists of numbers; the log's last number, asked of a node; a message more.
  Conditions: the lists can be read.
-/
import Derived.Test.YtdladjgdhnkkcaaZRfM
import Derived.Test.YtdladjgdhnkkcaaZTr8
import Derived.Test.YtdladjgdhnkkcaaZQ4ToQ7
import Derived.Deep.RegionLaw
import Derived.BigRegion
namespace Go.Proofs.Ytdladjgdhnkkcaa
open Go.RowKit
set_option linter.unusedVariables false
set_option linter.unusedSimpArgs false
set_option maxHeartbeats 1000000

/-- a copy: new memory -/
def Copied (k : IntKind) (e : TypeId) (l : List Int) (w : World) (en : Ending) (w' : World) : Prop :=
  (∃ A c, en = .returned (.slice A l.length c) ∧ OwnL (layI k) e w' w.heap.size (.slice A l.length c) l ∧ l.length ≤ c ∧ c ≤ maxLen) ∧ Below w.heap.size w w'

theorem cloneG_calls (A : Option Addr) (cap : Nat) (l : List Int) (w : World) (hR : Hid (RdI w A l)) (hlen : l.length ≤ 20000000000000) :
    Calls Try.prog 74 #[.slice A l.length cap] w (Copied .i64 3 l w) := by
  have q22 : ∀ (w : World) (a : Option Addr) (n c n' c' : Nat), (binOp .eql 45 (.slice a n c) (.slice none n' c')).run Try.prog w = .ok (.bool a.isNone) w := fun w a n c n' c' => Lib.run_eql_slice_nil w _ _ a n c n' c' Try.underlying45
  rcases A with _ | a
  · have hn : l = [] := by
      rcases Nat.eq_zero_or_pos l.length with h0 | h0
      · exact List.eq_nil_of_length_eq_zero h0
      · obtain ⟨_, _, e, _⟩ := hR.out.ex h0
        cases e
    subst hn
    simp only [List.length_nil]
    go_enter Try.func74, Try.ntmps74
    go_wp2_with fail
    go_ret
    exact ⟨⟨none, 0, rfl, OwnL.nil _ _, by simp, by simp [maxLen]⟩, Below.refl _ _⟩
  · have hbn := Lib.hid (bel_new (Below.refl w.heap.size w) (.cells #[] 3))
    have HLIT := Lib.hid (OwnL.lit (L := layI .i64) (e := 3) w w.heap.size (Nat.le_refl _) [] (by simp) #[] rfl)
    go_enter Try.func74, Try.ntmps74
    go_wp2_with (first
      | (at_builtin
         refine wpList_appL 45 _ 8 Try.underlying45 infoI rfl rfl (.tmp 5) (.tmp 6) rfl w.heap.size _ [] rfl HLIT.out (some a) l.length cap l rfl rfl (hR.out.bel hbn.out) (by simp [maxLen]; omega) (by simp; omega) (by simp) ?_
         intro v1 w1 ho1 hg1
         have hb1 := Lib.hid (OwnL.grown HLIT.out hbn.out (by simp) hg1)
         rw [List.nil_append] at ho1
         obtain ⟨A1, c1, rfl, hc1, hm1, _⟩ := ho1.form
         clear hg1))
    go_ret
    exact ⟨⟨A1, c1, rfl, ho1, hc1, hm1⟩, hb1.out⟩

theorem cloneL_calls (A : Option Addr) (cap : Nat) (l : List Int) (w : World) (hR : Hid (RdL (layI .i64) w A l)) (hlen : l.length ≤ 20000000000000) :
    Calls Try.prog 104 #[.slice A l.length cap] w (Copied .i64 2 l w) := by
  have q22 : ∀ (w : World) (a : Option Addr) (n c n' c' : Nat), (binOp .eql 46 (.slice a n c) (.slice none n' c')).run Try.prog w = .ok (.bool a.isNone) w := fun w a n c n' c' => Lib.run_eql_slice_nil w _ _ a n c n' c' Try.underlying46
  rcases A with _ | a
  · have hn : l = [] := by
      rcases Nat.eq_zero_or_pos l.length with h0 | h0
      · exact List.eq_nil_of_length_eq_zero h0
      · obtain ⟨_, _, e, _⟩ := hR.out.ex h0
        cases e
    subst hn
    simp only [List.length_nil]
    go_enter Try.func104, Try.ntmps104
    go_wp2_with fail
    go_ret
    exact ⟨⟨none, 0, rfl, OwnL.nil _ _, by simp, by simp [maxLen]⟩, Below.refl _ _⟩
  · have hbn := Lib.hid (bel_new (Below.refl w.heap.size w) (.cells #[] 2))
    have HLIT := Lib.hid (OwnL.lit (L := layI .i64) (e := 2) w w.heap.size (Nat.le_refl _) [] (by simp) #[] rfl)
    go_enter Try.func104, Try.ntmps104
    go_wp2_with (first
      | (at_builtin
         refine wpList_appL 46 _ 8 Try.underlying46 infoL rfl rfl (.tmp 5) (.tmp 6) rfl w.heap.size _ [] rfl HLIT.out (some a) l.length cap l rfl rfl (hR.out.bel hbn.out) (by simp [maxLen]; omega) (by simp; omega) (by simp) ?_
         intro v1 w1 ho1 hg1
         have hb1 := Lib.hid (OwnL.grown HLIT.out hbn.out (by simp) hg1)
         rw [List.nil_append] at ho1
         obtain ⟨A1, c1, rfl, hc1, hm1, _⟩ := ho1.form
         clear hg1))
    go_ret
    exact ⟨⟨A1, c1, rfl, ho1, hc1, hm1⟩, hb1.out⟩

/-- a node at block g -/
structure Nd (t : TypeId) (base g : Nat) (col : Nat → Nat) (r : Nod) (x : NdX) (L : List MsgV) (w : World) : Prop where
  ge : base ≤ g
  gc : col g = 1
  blk : Blk w g t (nodeC r x L.length)
  rest : Rest base col r x L w
theorem Nd.bel {t : TypeId} {base g : Nat} {col : Nat → Nat} {r : Nod} {x : NdX} {L : List MsgV} {w w' : World} (h : Nd t base g col r x L w) (hb : Below w.heap.size w w') : Nd t base g col r x L w' :=
  ⟨h.ge, h.gc, h.blk.bel hb, h.rest.bel hb⟩
theorem bel_base {base : Nat} {w w' : World} (h : Below w.heap.size w w') (hb : base ≤ w.heap.size) : Below base w w' := h.mono hb

theorem nlast_calls {base g : Nat} {col : Nat → Nat} {r : Nod} {x : NdX} {L : List MsgV} {w : World} (H : Hid (Nd 101 base g col r x L w)) (hlen : r.es.length ≤ 4096) :
    Calls Try.prog 94 #[.pointer (some ⟨g, 0, none⟩)] w fun e w' => e = .returned (.int .i64 (Rf.lastN r)) ∧ Below w.heap.size w w' := by
  obtain ⟨id, conf, term, vote, role, leader, b, bt, es, snap, commit, left, wait, votes, next, mtch⟩ := r
  have hc := H.out.blk.cells
  have HL := Lib.hid (last2_calls b bt x.eA x.ec es w H.out.rest.es.rd (by simp only at hlen; omega))
  dsimp only [nodeC] at hc
  go_enter Try.func94, Try.ntmps94
  go_wp2_with fail
  refine HL.out.mono ?_
  rintro e w1 ⟨rfl, hb1⟩
  have HB := Lib.hid hb1
  clear hb1 hc
  go_wp2_with fail
  go_ret
  exact ⟨rfl, HB.out⟩
end Go.Proofs.Ytdladjgdhnkkcaa
