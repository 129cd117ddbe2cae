
/-
  2 texts in one.
  Conditions: stated lemma by lemma.
-/
import Derived.Test.YtdladjgdhnkkcaaGreatZTr8
import Derived.Laws.StructEq
/-
  Contracts of the reference of layer 13: Entries, Same; the law's 'two' and 'awake'.
  Conditions: the entries can be read.
-/
namespace Go.Proofs.YtdladjgdhnkkcaaGreat
open Go.RowKit
set_option linter.unusedVariables false
set_option linter.unusedSimpArgs false

theorem ext_getD {es ls : List En} (hl : es.length = ls.length) (h : ∀ i, i < es.length → es.getD i default = ls.getD i default) : es = ls := by
  apply List.ext_getElem hl
  intro i h1 h2
  have := h i h1
  simpa [List.getD, h1, h2] using this
theorem toList_ne {s u : ByteArray} (h : s ≠ u) : (s.toList == u.toList) = false := by
  rw [beq_eq_false_iff_ne]
  intro e
  rw [ByteArray.toList_eq, ByteArray.toList_eq] at e
  apply h
  obtain ⟨x⟩ := s
  obtain ⟨y⟩ := u
  exact congrArg ByteArray.mk (Array.toList_inj.1 e)
def Bel (w W : World) : Prop := Below w.heap.size w W

set_option maxHeartbeats 2000000 in
theorem entries_calls (A B : Option Addr) (cap cap' : Nat) (es ls : List En) (w : World) (hR : RdE w A es) (hM : RdE w B ls) (hlen : es.length ≤ 9223372036854775807) (hll : ls.length ≤ 9223372036854775807) :
    Calls Tryz.prog 79 #[.slice A es.length cap, .slice B ls.length cap'] w fun e w' => e = .returned (.bool (decide (es = ls))) ∧ Below w.heap.size w w' := by
  obtain ⟨r, hr⟩ : ∃ r, r = decide (es = ls) := ⟨_, rfl⟩
  rw [← hr]
  have HF := Lib.hid hr
  have HR := Lib.hid hR
  have HM := Lib.hid hM
  clear hr hR hM
  by_cases hl : es.length = ls.length
  · have hne : ((es.length : Int) != (ls.length : Int)) = false := by rw [hl]; simp
    have HL := Lib.hid hl
    have hi : (es.length : Int) = (ls.length : Int) := by omega
    clear hl
    go_enter Tryz.func79, Tryz.ntmps79
    go_wp2_with fail
    go_loopg [5] es.length (fun g v5 W => Bel w W ∧ ∃ k : Nat, v5 = .int .i64 k ∧ Hid (k + g = es.length ∧ ∀ i, i < k → es.getD i default = ls.getD i default))
    case atStart => exact ⟨Below.refl _ _, 0, rfl, Lib.hid ⟨by omega, fun i hi => absurd hi (Nat.not_lt_zero _)⟩⟩
    case round =>
      obtain ⟨hbw, k, rfl, HI⟩ := hrel
      have HBW := Lib.hid hbw
      by_cases hlt : k < es.length
      · obtain ⟨b1, o1, rfl, hb1, c1, c2⟩ := HR.out k hlt
        obtain ⟨b2, o2, rfl, hb2, d1, d2⟩ := HM.out k (by have := HL.out; omega)
        have hstep : es.getD k default = ls.getD k default → ∀ i, i < k + 1 → es.getD i default = ls.getD i default := fun h i hi2 => by
          by_cases hik : i = k
          · rw [hik]; exact h
          · exact HI.out.2 i (by omega)
        have hwrong : es.getD k default ≠ ls.getD k default → r = false := fun h => by
          rw [HF.out, dec_f]
          intro e
          rw [e] at h
          exact h rfl
        generalize es.getD k default = c at *
        generalize ls.getD k default = d at *
        obtain ⟨x, s⟩ := c
        obtain ⟨y, u⟩ := d
        simp only at c1 c2 d1 d2
        have HST := Lib.hid hstep
        have HWR := Lib.hid hwrong
        have hne2 : Nonempty (InS (Bel w)) := ⟨⟨wr, hbw⟩⟩
        have k1 : ∀ X : InS (Bel w), X.val.cell? ⟨b1, o1 + k * 2, none⟩ = some (.int .i64 x) := fun X => (X.ok.cell (p := ⟨b1, o1 + k * 2, none⟩) hb1).trans c1
        have k2 : ∀ X : InS (Bel w), X.val.cell? ⟨b1, o1 + k * 2 + 1, none⟩ = some (.string s) := fun X => (X.ok.cell (p := ⟨b1, o1 + k * 2 + 1, none⟩) hb1).trans c2
        have k3 : ∀ X : InS (Bel w), X.val.cell? ⟨b2, o2 + k * 2, none⟩ = some (.int .i64 y) := fun X => (X.ok.cell (p := ⟨b2, o2 + k * 2, none⟩) hb2).trans d1
        have k4 : ∀ X : InS (Bel w), X.val.cell? ⟨b2, o2 + k * 2 + 1, none⟩ = some (.string u) := fun X => (X.ok.cell (p := ⟨b2, o2 + k * 2 + 1, none⟩) hb2).trans d2
        have g1 : (k : Int) < (es.length : Int) := by omega
        have g2 : (k : Int) < (ls.length : Int) := by have := HL.out; omega
        have g3 : k < ls.length := by have := HL.out; omega
        have hg : 0 < gk := by have := HI.out.1; omega
        clear c1 c2 d1 d2 hstep hwrong
        by_cases h1 : x = y
        · subst h1
          by_cases h2 : s = u
          · subst h2
            go_wp2_with fail
            refine wp_region_in (Bel w) (by kernel_rfl) (by kernel_rfl) (bel_drew HBW.out) ?_
            repeat (go_big_quiet_step (fail))
            refine wpQuiet_nil ?_
            intro W hW
            have hs := in_ok hW
            clear hW k1 k2 k3 k4 hbw
            go_wp2_with fail
            go_roundg (gk - 1)
            case rel => exact ⟨hs, k + 1, by go_num, Lib.hid ⟨by have := HI.out.1; omega, HST.out (by trivial)⟩⟩
            case measure => omega
          · have hsu := toList_ne h2
            have hrf : Hid (r = false) := Lib.hid (HWR.out (by intro e; exact h2 (Prod.mk.inj e).2))
            go_wp2_with fail
            refine wp_region_in (Bel w) (by kernel_rfl) (by kernel_rfl) (bel_drew HBW.out) ?_
            repeat (go_big_quiet_step (fail))
            refine wpQuiet_nil ?_
            intro W hW
            have hs := in_ok hW
            clear hW k1 k2 k3 k4 hbw
            go_wp2_with fail
            go_ret
            exact ⟨ret_bool hrf.out.symm, hs⟩
        · have hxy : (x == y) = false := by simpa using h1
          have hrf : Hid (r = false) := Lib.hid (HWR.out (by intro e; exact h1 (Prod.mk.inj e).1))
          clear h1
          go_wp2_with fail
          refine wp_region_in (Bel w) (by kernel_rfl) (by kernel_rfl) (bel_drew HBW.out) ?_
          repeat (go_big_quiet_step (fail))
          refine wpQuiet_nil ?_
          intro W hW
          have hs := in_ok hW
          clear hW k1 k2 k3 k4 hbw
          go_wp2_with fail
          go_ret
          exact ⟨ret_bool hrf.out.symm, hs⟩
      · have hrt : r = true := by
          rw [HF.out]
          exact dec_t (ext_getD HL.out (fun i hi2 => HI.out.2 i (by have := HI.out.1; omega)))
        have g1 : ¬ (k : Int) < (es.length : Int) := by omega
        clear hlt
        go_wp2_with fail
        go_ret
        first | exact ⟨ret_bool hrt.symm, HBW.out⟩ | exact ⟨rfl, HBW.out⟩
  · have hne : ((es.length : Int) != (ls.length : Int)) = true := by simp; omega
    have hrf : r = false := by
      rw [HF.out, dec_f]
      intro e
      exact hl (by rw [e])
    clear hl
    go_enter Tryz.func79, Tryz.ntmps79
    go_wp2_with fail
    go_ret
    exact ⟨ret_bool hrf.symm, Below.refl _ _⟩

set_option maxHeartbeats 1000000 in
theorem same_calls (b bt c ct : Int) (A B : Option Addr) (cap cap' : Nat) (es ls : List En) (w : World) (hR : RdE w A es) (hM : RdE w B ls) (hlen : es.length ≤ 9223372036854775807) (hll : ls.length ≤ 9223372036854775807) :
    Calls Tryz.prog 34 #[trV b bt A es.length cap, trV c ct B ls.length cap'] w fun e w' => e = .returned (.bool (decide (b = c ∧ bt = ct ∧ es = ls))) ∧ Below w.heap.size w w' := by
  have hen := Lib.hid (fun W (hb : Below w.heap.size w W) => entries_calls A B cap cap' es ls W (hR.bel hb) (hM.bel hb) hlen hll)
  have hS := Lib.hid (((SW.nil w).new 25 #[.int .i64 b, .int .i64 bt, .slice A es.length cap] w.heap.size rfl).new 25 #[.int .i64 c, .int .i64 ct, .slice B ls.length cap'] (w.heap.size + 1) (by simp))
  by_cases h1 : b = c
  · subst h1
    by_cases h2 : bt = ct
    · subst h2
      have e : decide (b = b ∧ bt = bt ∧ es = ls) = decide (es = ls) := by simp
      rw [e]
      clear e
      generalize decide (es = ls) = r at *
      go_enter Tryz.func34, Tryz.ntmps34
      go_wp2_with fail
      refine (hen.out _ hS.out.1).mono ?_
      rintro e w1 ⟨rfl, hb1⟩
      have hs := (hS.out.bel hb1).1
      go_wp2_with fail
      all_goals
        go_ret
        exact ⟨ret_bool (by first | rfl | assumption | (symm; assumption)), hs⟩
    · have e : decide (b = b ∧ bt = ct ∧ es = ls) = false := dec_f (fun h => h2 h.2.1)
      rw [e]
      have hx : (bt == ct) = false := by simpa using h2
      clear e h2
      go_enter Tryz.func34, Tryz.ntmps34
      go_wp2_with fail
      go_ret
      exact ⟨rfl, hS.out.1⟩
  · have e : decide (b = c ∧ bt = ct ∧ es = ls) = false := dec_f (fun h => h1 h.1)
    rw [e]
    have hx : (b == c) = false := by simpa using h1
    clear e h1
    go_enter Tryz.func34, Tryz.ntmps34
    go_wp2_with fail
    go_ret
    exact ⟨rfl, hS.out.1⟩
end Go.Proofs.YtdladjgdhnkkcaaGreat

/-
  The law's 'two' and 'awake' of layer 13.
  No condition.
-/
namespace Go.Proofs.YtdladjgdhnkkcaaGreat
open Go.RowKit
set_option linter.unusedVariables false
set_option linter.unusedSimpArgs false

def sA : ByteArray := ⟨#[97]⟩
def sB : ByteArray := ⟨#[98]⟩
def sX : ByteArray := ⟨#[120]⟩
def twoE : List En := [(1, ⟨#[97]⟩), (3, ⟨#[98]⟩)]

theorem rdE_new (w : World) (es : List En) (hm : es.length ≤ maxLen) (cs : Array Value) (hc : cs = (cellsE es).toArray) : RdE (w.alloc (.cells cs 68)) (some ⟨w.heap.size, 0, none⟩) es := by
  obtain ⟨A, cap, e, _, h, _⟩ := (OwnE.lit w w.heap.size (Nat.le_refl _) es hm cs hc).form
  injection e with e
  subst e
  exact h
theorem putW3 : Tr.put 2 1 twoE 3 1 [(2, ⟨#[120]⟩)] 3 = some [(1, ⟨#[97]⟩), (2, ⟨#[120]⟩)] := by rfl
theorem putW4 : Tr.put 2 1 twoE 3 1 [(2, ⟨#[120]⟩)] 4 = none := by rfl
theorem lastW : Tr.lastN 2 1 twoE = 4 ∧ Tr.lastT 2 1 twoE = 3 := ⟨rfl, rfl⟩
theorem hasW : Tr.has 2 1 twoE 3 = true ∧ Tr.trm 2 1 twoE 3 = 1 := ⟨rfl, rfl⟩
theorem newW : Tr.newer 2 1 twoE 2 4 = true := rfl

end Go.Proofs.YtdladjgdhnkkcaaGreat
