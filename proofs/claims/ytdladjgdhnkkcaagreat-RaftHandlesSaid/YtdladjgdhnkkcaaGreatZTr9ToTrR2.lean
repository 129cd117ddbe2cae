
/-
  5 texts in one.
  Conditions: stated lemma by lemma.
-/
import Derived.Test.YtdladjgdhnkkcaaGreatZTr8
import Derived.Laws.StructEq
/-
  Contracts of the reference of layer 13: Entries, Same; the law's 'two' and 'awake'.
  Conditions: the entries can be read.
-/
namespace Go.Proofs.YtdladjgdhnkkcaaGreat
open Go.RowKit
set_option linter.unusedVariables false
set_option linter.unusedSimpArgs false

theorem ext_getD {es ls : List En} (hl : es.length = ls.length) (h : ∀ i, i < es.length → es.getD i default = ls.getD i default) : es = ls := by
  apply List.ext_getElem hl
  intro i h1 h2
  have := h i h1
  simpa [List.getD, h1, h2] using this
theorem toList_ne {s u : ByteArray} (h : s ≠ u) : (s.toList == u.toList) = false := by
  rw [beq_eq_false_iff_ne]
  intro e
  rw [ByteArray.toList_eq, ByteArray.toList_eq] at e
  apply h
  obtain ⟨x⟩ := s
  obtain ⟨y⟩ := u
  exact congrArg ByteArray.mk (Array.toList_inj.1 e)
def Bel (w W : World) : Prop := Below w.heap.size w W

set_option maxHeartbeats 2000000 in
theorem entries_calls (A B : Option Addr) (cap cap' : Nat) (es ls : List En) (w : World) (hR : RdE w A es) (hM : RdE w B ls) (hlen : es.length ≤ 9223372036854775807) (hll : ls.length ≤ 9223372036854775807) :
    Calls Tryz.prog 79 #[.slice A es.length cap, .slice B ls.length cap'] w fun e w' => e = .returned (.bool (decide (es = ls))) ∧ Below w.heap.size w w' := by
  obtain ⟨r, hr⟩ : ∃ r, r = decide (es = ls) := ⟨_, rfl⟩
  rw [← hr]
  have HF := Lib.hid hr
  have HR := Lib.hid hR
  have HM := Lib.hid hM
  clear hr hR hM
  by_cases hl : es.length = ls.length
  · have hne : ((es.length : Int) != (ls.length : Int)) = false := by rw [hl]; simp
    have HL := Lib.hid hl
    have hi : (es.length : Int) = (ls.length : Int) := by omega
    clear hl
    go_enter Tryz.func79, Tryz.ntmps79
    go_wp2_with fail
    go_loopg [5] es.length (fun g v5 W => Bel w W ∧ ∃ k : Nat, v5 = .int .i64 k ∧ Hid (k + g = es.length ∧ ∀ i, i < k → es.getD i default = ls.getD i default))
    case atStart => exact ⟨Below.refl _ _, 0, rfl, Lib.hid ⟨by omega, fun i hi => absurd hi (Nat.not_lt_zero _)⟩⟩
    case round =>
      obtain ⟨hbw, k, rfl, HI⟩ := hrel
      have HBW := Lib.hid hbw
      by_cases hlt : k < es.length
      · obtain ⟨b1, o1, rfl, hb1, c1, c2⟩ := HR.out k hlt
        obtain ⟨b2, o2, rfl, hb2, d1, d2⟩ := HM.out k (by have := HL.out; omega)
        have hstep : es.getD k default = ls.getD k default → ∀ i, i < k + 1 → es.getD i default = ls.getD i default := fun h i hi2 => by
          by_cases hik : i = k
          · rw [hik]; exact h
          · exact HI.out.2 i (by omega)
        have hwrong : es.getD k default ≠ ls.getD k default → r = false := fun h => by
          rw [HF.out, dec_f]
          intro e
          rw [e] at h
          exact h rfl
        generalize es.getD k default = c at *
        generalize ls.getD k default = d at *
        obtain ⟨x, s⟩ := c
        obtain ⟨y, u⟩ := d
        simp only at c1 c2 d1 d2
        have HST := Lib.hid hstep
        have HWR := Lib.hid hwrong
        have hne2 : Nonempty (InS (Bel w)) := ⟨⟨wr, hbw⟩⟩
        have k1 : ∀ X : InS (Bel w), X.val.cell? ⟨b1, o1 + k * 2, none⟩ = some (.int .i64 x) := fun X => (X.ok.cell (p := ⟨b1, o1 + k * 2, none⟩) hb1).trans c1
        have k2 : ∀ X : InS (Bel w), X.val.cell? ⟨b1, o1 + k * 2 + 1, none⟩ = some (.string s) := fun X => (X.ok.cell (p := ⟨b1, o1 + k * 2 + 1, none⟩) hb1).trans c2
        have k3 : ∀ X : InS (Bel w), X.val.cell? ⟨b2, o2 + k * 2, none⟩ = some (.int .i64 y) := fun X => (X.ok.cell (p := ⟨b2, o2 + k * 2, none⟩) hb2).trans d1
        have k4 : ∀ X : InS (Bel w), X.val.cell? ⟨b2, o2 + k * 2 + 1, none⟩ = some (.string u) := fun X => (X.ok.cell (p := ⟨b2, o2 + k * 2 + 1, none⟩) hb2).trans d2
        have g1 : (k : Int) < (es.length : Int) := by omega
        have g2 : (k : Int) < (ls.length : Int) := by have := HL.out; omega
        have g3 : k < ls.length := by have := HL.out; omega
        have hg : 0 < gk := by have := HI.out.1; omega
        clear c1 c2 d1 d2 hstep hwrong
        by_cases h1 : x = y
        · subst h1
          by_cases h2 : s = u
          · subst h2
            go_wp2_with fail
            refine wp_region_in (Bel w) (by kernel_rfl) (by kernel_rfl) (bel_drew HBW.out) ?_
            repeat (go_big_quiet_step (fail))
            refine wpQuiet_nil ?_
            intro W hW
            have hs := in_ok hW
            clear hW k1 k2 k3 k4 hbw
            go_wp2_with fail
            go_roundg (gk - 1)
            case rel => exact ⟨hs, k + 1, by go_num, Lib.hid ⟨by have := HI.out.1; omega, HST.out (by trivial)⟩⟩
            case measure => omega
          · have hsu := toList_ne h2
            have hrf : Hid (r = false) := Lib.hid (HWR.out (by intro e; exact h2 (Prod.mk.inj e).2))
            go_wp2_with fail
            refine wp_region_in (Bel w) (by kernel_rfl) (by kernel_rfl) (bel_drew HBW.out) ?_
            repeat (go_big_quiet_step (fail))
            refine wpQuiet_nil ?_
            intro W hW
            have hs := in_ok hW
            clear hW k1 k2 k3 k4 hbw
            go_wp2_with fail
            go_ret
            exact ⟨ret_bool hrf.out.symm, hs⟩
        · have hxy : (x == y) = false := by simpa using h1
          have hrf : Hid (r = false) := Lib.hid (HWR.out (by intro e; exact h1 (Prod.mk.inj e).1))
          clear h1
          go_wp2_with fail
          refine wp_region_in (Bel w) (by kernel_rfl) (by kernel_rfl) (bel_drew HBW.out) ?_
          repeat (go_big_quiet_step (fail))
          refine wpQuiet_nil ?_
          intro W hW
          have hs := in_ok hW
          clear hW k1 k2 k3 k4 hbw
          go_wp2_with fail
          go_ret
          exact ⟨ret_bool hrf.out.symm, hs⟩
      · have hrt : r = true := by
          rw [HF.out]
          exact dec_t (ext_getD HL.out (fun i hi2 => HI.out.2 i (by have := HI.out.1; omega)))
        have g1 : ¬ (k : Int) < (es.length : Int) := by omega
        clear hlt
        go_wp2_with fail
        go_ret
        first | exact ⟨ret_bool hrt.symm, HBW.out⟩ | exact ⟨rfl, HBW.out⟩
  · have hne : ((es.length : Int) != (ls.length : Int)) = true := by simp; omega
    have hrf : r = false := by
      rw [HF.out, dec_f]
      intro e
      exact hl (by rw [e])
    clear hl
    go_enter Tryz.func79, Tryz.ntmps79
    go_wp2_with fail
    go_ret
    exact ⟨ret_bool hrf.symm, Below.refl _ _⟩

set_option maxHeartbeats 1000000 in
theorem same_calls (b bt c ct : Int) (A B : Option Addr) (cap cap' : Nat) (es ls : List En) (w : World) (hR : RdE w A es) (hM : RdE w B ls) (hlen : es.length ≤ 9223372036854775807) (hll : ls.length ≤ 9223372036854775807) :
    Calls Tryz.prog 34 #[trV b bt A es.length cap, trV c ct B ls.length cap'] w fun e w' => e = .returned (.bool (decide (b = c ∧ bt = ct ∧ es = ls))) ∧ Below w.heap.size w w' := by
  have hen := Lib.hid (fun W (hb : Below w.heap.size w W) => entries_calls A B cap cap' es ls W (hR.bel hb) (hM.bel hb) hlen hll)
  have hS := Lib.hid (((SW.nil w).new 25 #[.int .i64 b, .int .i64 bt, .slice A es.length cap] w.heap.size rfl).new 25 #[.int .i64 c, .int .i64 ct, .slice B ls.length cap'] (w.heap.size + 1) (by simp))
  by_cases h1 : b = c
  · subst h1
    by_cases h2 : bt = ct
    · subst h2
      have e : decide (b = b ∧ bt = bt ∧ es = ls) = decide (es = ls) := by simp
      rw [e]
      clear e
      generalize decide (es = ls) = r at *
      go_enter Tryz.func34, Tryz.ntmps34
      go_wp2_with fail
      refine (hen.out _ hS.out.1).mono ?_
      rintro e w1 ⟨rfl, hb1⟩
      have hs := (hS.out.bel hb1).1
      go_wp2_with fail
      all_goals
        go_ret
        exact ⟨ret_bool (by first | rfl | assumption | (symm; assumption)), hs⟩
    · have e : decide (b = b ∧ bt = ct ∧ es = ls) = false := dec_f (fun h => h2 h.2.1)
      rw [e]
      have hx : (bt == ct) = false := by simpa using h2
      clear e h2
      go_enter Tryz.func34, Tryz.ntmps34
      go_wp2_with fail
      go_ret
      exact ⟨rfl, hS.out.1⟩
  · have e : decide (b = c ∧ bt = ct ∧ es = ls) = false := dec_f (fun h => h1 h.1)
    rw [e]
    have hx : (b == c) = false := by simpa using h1
    clear e h1
    go_enter Tryz.func34, Tryz.ntmps34
    go_wp2_with fail
    go_ret
    exact ⟨rfl, hS.out.1⟩
end Go.Proofs.YtdladjgdhnkkcaaGreat

/-
  The law's 'two' and 'awake' of layer 13.
  No condition.
-/
namespace Go.Proofs.YtdladjgdhnkkcaaGreat
open Go.RowKit
set_option linter.unusedVariables false
set_option linter.unusedSimpArgs false

def twoE : List En := [(1, ⟨#[97]⟩), (3, ⟨#[98]⟩)]

theorem rdE_new (w : World) (es : List En) (hm : es.length ≤ maxLen) (cs : Array Value) (hc : cs = (cellsE es).toArray) : RdE (w.alloc (.cells cs 68)) (some ⟨w.heap.size, 0, none⟩) es := by
  obtain ⟨A, cap, e, _, h, _⟩ := (OwnE.lit w w.heap.size (Nat.le_refl _) es hm cs hc).form
  injection e with e
  subst e
  exact h
theorem putW3 : Tr.put 2 1 twoE 3 1 [(2, ⟨#[120]⟩)] 3 = some [(1, ⟨#[97]⟩), (2, ⟨#[120]⟩)] := by rfl
theorem putW4 : Tr.put 2 1 twoE 3 1 [(2, ⟨#[120]⟩)] 4 = none := by rfl
theorem lastW : Tr.lastN 2 1 twoE = 4 ∧ Tr.lastT 2 1 twoE = 3 := ⟨rfl, rfl⟩
theorem hasW : Tr.has 2 1 twoE 3 = true ∧ Tr.trm 2 1 twoE 3 = 1 := ⟨rfl, rfl⟩
theorem newW : Tr.newer 2 1 twoE 2 4 = true := rfl

end Go.Proofs.YtdladjgdhnkkcaaGreat

/-
  Contracts of the reference of layer 13: Slice.
  Conditions: the entries can be read.
-/
namespace Go.Proofs.YtdladjgdhnkkcaaGreat
open Go.RowKit
set_option linter.unusedVariables false
set_option linter.unusedSimpArgs false

theorem take_step {es : List En} {d i : Nat} (h1 : d ≤ i) (h2 : i < es.length) : (es.drop d).take (i + 1 - d) = (es.drop d).take (i - d) ++ [es.getD i default] := by
  rw [show i + 1 - d = (i - d) + 1 from by omega, List.take_add_one]
  congr 1
  rw [List.getElem?_drop, show d + (i - d) = i from by omega, List.getElem?_eq_getElem h2]
  simp [List.getD, h2]
theorem cut_end {b bt from_ most : Int} {es : List En} {d i : Nat} (hc : Tr.chk b bt es = true) (hd : d = (max from_ (b + 1) - b - 1).toNat) (hi : i ≤ es.length) (hm : (((es.drop d).take (i - d)).length : Int) ≤ max most 0)
    (he : i = es.length ∨ most ≤ (((es.drop d).take (i - d)).length : Int)) : (es.drop d).take (i - d) = Tr.cutFrom b bt es from_ most := by
  unfold Tr.cutFrom
  rw [hc, ← hd]
  simp only [List.length_take, List.length_drop] at hm he
  by_cases h1 : from_ ≤ b + es.length ∧ 0 < most
  · rw [if_pos (by simp [h1])]
    rcases he with rfl | he
    · rw [List.take_of_length_le (by simp), List.take_of_length_le (by simp; omega)]
    · rw [show i - d = most.toNat from by omega]
  · rw [if_neg (by simpa using h1)]
    apply List.eq_nil_of_length_eq_zero
    simp only [List.length_take, List.length_drop]
    omega

set_option maxRecDepth 20000 in
set_option maxHeartbeats 4000000 in
theorem rslice_calls2 (b bt from_ most : Int) (A : Option Addr) (cap : Nat) (es : List En) (w : World) (hR : RdE w A es) (hlen : es.length ≤ 2 ^ 47) (hcap : es.length ≤ cap) :
    Calls Tryz.prog 94 #[trV b bt A es.length cap, .int .i64 from_, .int .i64 most] w fun e w' => (∃ A' cap', e = .returned (.slice A' (Tr.cutFrom b bt es from_ most).length cap') ∧ OwnE w' w.heap.size (.slice A' (Tr.cutFrom b bt es from_ most).length cap') (Tr.cutFrom b bt es from_ most)) ∧ Below w.heap.size w w' := by
  have hck := Lib.hid (fun W hb => rcheck_calls b bt A cap es W (hR.bel hb) (by omega))
  have HR := Lib.hid hR
  have hS := Lib.hid (((SW.nil w).new 25 #[.int .i64 b, .int .i64 bt, .slice A es.length cap] w.heap.size rfl))
  obtain ⟨o, ho⟩ : ∃ o, o = Tr.cutFrom b bt es from_ most := ⟨_, rfl⟩
  rw [← ho]
  by_cases hc : Tr.chk b bt es = true
  · obtain ⟨r1, r2, r3, r4, _, r5, r6⟩ := Tr.chk_rim hc
    obtain ⟨d, hd⟩ : ∃ d, d = (max from_ (b + 1) - b - 1).toNat := ⟨_, rfl⟩
    have HD := Lib.hid hd
    have HC := Lib.hid hc
    have HO := Lib.hid ho
    rw [hc] at hck
    clear hc hR ho hd
    go_enter Tryz.func94, Tryz.ntmps94
    go_wp2_with fail
    refine (hck.out _ hS.out.1).mono ?_
    rintro e w1 ⟨rfl, hb1⟩
    have hs1 := Lib.hid (hS.out.bel hb1)
    have hlt := (hs1.out.at_ 0 rfl).lt
    clear hb1 hS hck
    go_wp2_with fail
    go_loopg [7, 8] es.length (fun g v7 v8 W => ∃ i : Nat, v8 = .int .i64 i ∧ ∃ A7 c7, v7 = .slice A7 ((es.drop d).take (i - d)).length c7 ∧ Hid (i + g = es.length ∧ OwnE W (w.heap.size + 1) (.slice A7 ((es.drop d).take (i - d)).length c7) ((es.drop d).take (i - d)) ∧ Below (w.heap.size + 1) w1 W ∧ (((es.drop d).take (i - d)).length : Int) ≤ max most 0))
    case atStart => exact ⟨0, rfl, none, 0, by simp, Lib.hid ⟨by omega, by have := OwnE.nil w1 (w.heap.size + 1); simpa using this, Below.refl _ _, by simp; omega⟩⟩
    case round =>
      obtain ⟨i, rfl, A7, c7, rfl, HI⟩ := hrel
      obtain ⟨i1, i2, i3, i4⟩ := HI.out
      have HIg := Lib.hid i1
      have HOw := Lib.hid i2
      have HBl := Lib.hid i3
      have HM := Lib.hid i4
      have hB := (hs1.out.at_ 0 rfl).below i3 (by omega)
      have c1 := hB.cells
      have hbw := Lib.hid (hs1.out.1.trans (i3.mono (by omega)))
      have hsz := i3.size
      clear i1 i2 i3 i4 HI
      obtain ⟨n, hn⟩ : ∃ n, n = ((es.drop d).take (i - d)).length := ⟨_, rfl⟩
      rw [← hn] at HOw HM ⊢
      have HN := Lib.hid hn
      by_cases hlt2 : i < es.length ∧ (n : Int) < most
      · obtain ⟨l1, l2⟩ := hlt2
        have g1 : (i : Int) < (es.length : Int) := by omega
        have hg : 0 < gk := by have := HIg.out; omega
        have n1 : b + 1 ≤ 9223372036854775807 := by omega
        have n2 : b + 1 + (i : Int) ≤ 9223372036854775807 := by omega
        by_cases hf : from_ ≤ b + 1 + (i : Int)
        · obtain ⟨bl, off, rfl, hbl, x1, x2⟩ := HR.out i l1
          have hx1 := (hbw.out.cell (p := ⟨bl, off + i * 2, none⟩) hbl).trans x1
          have hx2 := (hbw.out.cell (p := ⟨bl, off + i * 2 + 1, none⟩) hbl).trans x2
          have hdi : d ≤ i := by rw [HD.out]; omega
          have hst := Lib.hid (take_step hdi l1)
          generalize hcc : es.getD i default = c at *
          obtain ⟨cx, cs⟩ := c
          simp only at hx1 hx2
          clear x1 x2 hn hcc
          go_wp2_with (first
            | (at_builtin
               refine wpList_appE rfl (.tmp 33) (.tmp 39) rfl (w.heap.size + 1) _ ((es.drop d).take (i - d)) rfl (HOw.out.kept (bel_new (Below.refl _ _) _)) (some ⟨wr.heap.size, 0, none⟩) 1 1 [(cx, cs)] rfl rfl (rdE_new wr [(cx, cs)] (by simp [maxLen]) _ rfl) (by have := HN.out; simp; omega) (by simp; omega) ?_
               intro v2 w2 ho2 hg2 _
               have hb2 := Lib.hid (OwnE.grown (HOw.out.kept (bel_new (Below.refl _ _) _)) (HBl.out.alloc (by omega) _) (by simp; omega) hg2)
               rw [← hst.out] at ho2
               obtain ⟨A2, c2, rfl, _, _, _⟩ := ho2.form
               clear hg2))
          go_roundg (gk - 1)
          case rel => exact ⟨i + 1, by go_num, A2, c2, by simp, Lib.hid ⟨by have := HIg.out; omega, ho2, hb2.out, by have := HN.out; rw [hst.out]; simp at this ⊢; omega⟩⟩
          case measure => omega
        · have hdi : (es.drop d).take (i + 1 - d) = (es.drop d).take (i - d) := by
            have : i + 1 - d = i - d := by rw [HD.out]; omega
            rw [this]
          have hst := Lib.hid hdi
          clear hdi hn
          go_wp2_with fail
          go_roundg (gk - 1)
          case rel =>
            refine ⟨i + 1, by go_num, A7, c7, by rw [hst.out, HN.out], Lib.hid ⟨by have := HIg.out; omega, ?_, HBl.out, ?_⟩⟩
            · rw [hst.out, ← HN.out]; exact HOw.out
            · rw [hst.out, ← HN.out]; exact HM.out
          case measure => omega
      · have hend : (es.drop d).take (i - d) = o := by
          rw [HO.out]
          exact cut_end HC.out HD.out (by have := HIg.out; omega) (by rw [← HN.out]; exact HM.out) (by rw [← HN.out]; have := HIg.out; omega)
        have hno : n = o.length := by rw [HN.out, hend]
        rw [hend] at HOw
        have hL := Lib.hid hlt2
        clear hlt2 hn hend
        have hfin : ∃ A' cap', Ending.returned (.slice A7 n c7) = .returned (.slice A' o.length cap') ∧ OwnE wr w.heap.size (.slice A' o.length cap') o :=
          ⟨A7, c7, by rw [hno], by have := HOw.out.low (Nat.le_succ w.heap.size); rwa [hno] at this⟩
        have HF := Lib.hid hfin
        clear hfin hno
        by_cases l1 : i < es.length
        · have g1 : (i : Int) < (es.length : Int) := by omega
          have g2 : ¬ (n : Int) < most := by have := hL.out; omega
          go_wp2_with fail
          go_ret
          obtain ⟨A', c', e1, e2⟩ := HF.out
          exact ⟨⟨A', c', e1, e2⟩, hbw.out⟩
        · have g1 : ¬ (i : Int) < (es.length : Int) := by omega
          go_wp2_with fail
          go_ret
          obtain ⟨A', c', e1, e2⟩ := HF.out
          exact ⟨⟨A', c', e1, e2⟩, hbw.out⟩
  · simp only [Bool.not_eq_true] at hc
    have hon : o = [] := by rw [ho]; unfold Tr.cutFrom; rw [hc]; simp
    subst hon
    rw [hc] at hck
    go_enter Tryz.func94, Tryz.ntmps94
    go_wp2_with fail
    refine (hck.out _ hS.out.1).mono ?_
    rintro e w1 ⟨rfl, hb1⟩
    have hs1 := hS.out.bel hb1
    go_wp2_with fail
    go_ret
    exact ⟨⟨none, 0, rfl, OwnE.nil _ _⟩, hs1.1⟩
end Go.Proofs.YtdladjgdhnkkcaaGreat

/-
  Contracts of the reference of layer 13: Append, Cut.
  Conditions: the entries can be read.
-/
namespace Go.Proofs.YtdladjgdhnkkcaaGreat
open Go.RowKit
set_option linter.unusedVariables false
set_option linter.unusedSimpArgs false

set_option maxRecDepth 20000 in
set_option maxHeartbeats 4000000 in
theorem rcut_calls (b bt to : Int) (A : Option Addr) (cap : Nat) (es : List En) (w : World) (hR : RdE w A es) (hlen : es.length ≤ 2 ^ 47) (hcap : es.length ≤ cap) :
    Calls Tryz.prog 75 #[trV b bt A es.length cap, .int .i64 to] w fun e w' => (∃ v, e = .returned v ∧ ResT w.heap.size to (Tr.trm b bt es to) (if Tr.has b bt es to then some (es.drop (to - b).toNat) else none) v w') ∧ Below w.heap.size w w' := by
  have ht := Lib.hid (fun W hb => rterm2_calls b bt to A cap es W (hR.bel hb) (by omega))
  have HR := Lib.hid hR
  have hS := Lib.hid (((SW.nil w).new 25 #[.int .i64 b, .int .i64 bt, .slice A es.length cap] w.heap.size rfl).new 25 zT (w.heap.size + 1) (by simp))
  by_cases hc : Tr.has b bt es to = true
  · rw [hc] at ht
    simp only [if_true] at ht
    rw [if_pos hc]
    obtain ⟨hc1, h2, h3⟩ := Tr.has_chk hc
    have hr := Tr.chk_rim hc1
    generalize Tr.trm b bt es to = x at *
    obtain ⟨k, rfl⟩ : ∃ k : Nat, to = b + k := ⟨(to - b).toNat, by omega⟩
    have e1 : b + (k : Int) - b = (k : Int) := by omega
    rw [e1, Int.toNat_natCast]
    have k1 : (k : Int) ≤ (es.length : Int) := by omega
    have hdl : es.length - k = (es.drop k).length := by simp
    have HL := Lib.hid hr
    have HD := Lib.hid hdl
    clear hc hc1 h2 h3 hr hdl hR
    by_cases hck : cap = k
    · subst hck
      have hz : es.length - cap = 0 := by omega
      have hnil : es.drop cap = [] := List.drop_of_length_le (by omega)
      have HNIL := Lib.hid hnil
      rw [hz] at HD
      clear hnil
      go_enter Tryz.func75, Tryz.ntmps75
      go_wp2_with fail
      refine (ht.out _ hS.out.1).mono ?_
      rintro e w1 ⟨rfl, hb1⟩
      have hs1 := Lib.hid (hS.out.bel hb1)
      have c0 := (hs1.out.at_ 0 rfl).cells
      have hg := (hs1.out.at_ 1 rfl).lt
      have hsz := hs1.out.1.size
      have hne : w.heap.size ≠ w1.heap.size := by omega
      have cE := ((hs1.out.at_ 0 rfl).alloc (.cells #[] 68)).cells
      clear hb1 hS ht
      go_wp2_with (first
        | (at_builtin
           refine wpList_appE rfl (.tmp 19) (.tmp 26) rfl w1.heap.size _ [] rfl (OwnE.lit w1 w1.heap.size (Nat.le_refl _) [] (by simp) #[] rfl) A 0 0 [] rfl rfl (RdE.nil _ _) (by simp) (by simp) ?_
           intro v2 w2 ho2 hg2 _
           have hb2 := Lib.hid (OwnE.grown (OwnE.lit w1 w1.heap.size (Nat.le_refl _) [] (by simp) #[] rfl) ((Below.refl _ _).alloc (Nat.le_refl _) _) (by simp) hg2)
           have hs2 := Lib.hid (hs1.out.bel hb2.out)
           have hB := hs2.out.at_ 1 rfl
           have c2 := hB.cells
           have f2 := hB.free
           rw [List.nil_append] at ho2
           obtain ⟨A2, cap2, rfl, q1, q2, q3⟩ := ho2.form
           have HOW := Lib.hid ho2
           clear hg2))
      refine bodyPost_ret (v := .tuple #[trV (b + cap) x A2 0 cap2, .bool true]) (by simp [results, Tryz.results75, go_sem, c2]) rfl ⟨⟨_, rfl, ⟨A2, cap2, (by rw [HNIL.out]; rfl), by rw [HNIL.out]; exact put3_own HOW.out (by omega) (by omega)⟩⟩, put3_bel hs2.out.1 (by omega)⟩
    · have hrd := HR.out.drop k cap hcap
      rw [if_neg hck] at hrd
      have HRD := Lib.hid hrd
      clear hrd
      go_enter Tryz.func75, Tryz.ntmps75
      go_wp2_with fail
      refine (ht.out _ hS.out.1).mono ?_
      rintro e w1 ⟨rfl, hb1⟩
      have hs1 := Lib.hid (hS.out.bel hb1)
      have c0 := (hs1.out.at_ 0 rfl).cells
      have hg := (hs1.out.at_ 1 rfl).lt
      have hsz := hs1.out.1.size
      have hne : w.heap.size ≠ w1.heap.size := by omega
      have cE := ((hs1.out.at_ 0 rfl).alloc (.cells #[] 68)).cells
      clear hb1 hS ht
      go_wp2_with (first
        | (at_builtin
           refine wpList_appE rfl (.tmp 19) (.tmp 26) rfl w1.heap.size _ [] rfl (OwnE.lit w1 w1.heap.size (Nat.le_refl _) [] (by simp) #[] rfl) (A.map (·.add (k * 2))) (es.length - k) (cap - k) (es.drop k) rfl HD.out ((HRD.out.bel hs1.out.1).bel (bel_new (Below.refl _ _) _)) (by have := HL.out; simp; omega) (by simp) ?_
           intro v2 w2 ho2 hg2 _
           have hb2 := Lib.hid (OwnE.grown (OwnE.lit w1 w1.heap.size (Nat.le_refl _) [] (by simp) #[] rfl) ((Below.refl _ _).alloc (Nat.le_refl _) _) (by simp) hg2)
           have hs2 := Lib.hid (hs1.out.bel hb2.out)
           have hB := hs2.out.at_ 1 rfl
           have c2 := hB.cells
           have f2 := hB.free
           rw [List.nil_append] at ho2
           obtain ⟨A2, cap2, rfl, q1, q2, q3⟩ := ho2.form
           have HOW := Lib.hid ho2
           clear hg2))
      refine bodyPost_ret (v := .tuple #[trV (b + k) x A2 (es.drop k).length cap2, .bool true]) (by simp [results, Tryz.results75, go_sem, c2]) rfl ⟨⟨_, rfl, ⟨A2, cap2, rfl, put3_own HOW.out (by omega) (by omega)⟩⟩, put3_bel hs2.out.1 (by omega)⟩
  · rw [if_neg hc]
    simp only [Bool.not_eq_true] at hc
    rw [hc] at ht
    simp only [Bool.false_eq_true, if_false] at ht
    clear hR hc
    go_enter Tryz.func75, Tryz.ntmps75
    go_wp2_with fail
    refine (ht.out _ hS.out.1).mono ?_
    rintro e w1 ⟨rfl, hb1⟩
    have hs1 := Lib.hid (hS.out.bel hb1)
    have hB := hs1.out.at_ 1 rfl
    have c2 := hB.cells
    have f2 := hB.free
    clear hb1 hS
    go_wp2_with fail
    refine bodyPost_ret (v := .tuple #[trV 0 0 none 0 0, .bool false]) (by simp [results, Tryz.results75, go_sem, c2]) rfl ⟨⟨_, rfl, rfl⟩, put3_bel hs1.out.1 (by omega)⟩
end Go.Proofs.YtdladjgdhnkkcaaGreat

/-
  Contracts of the reference of layer 13: Append.
  Conditions: the entries can be read.
-/
namespace Go.Proofs.YtdladjgdhnkkcaaGreat
open Go.RowKit
set_option linter.unusedVariables false
set_option linter.unusedSimpArgs false

theorem OwnE.setBelow {w : World} {base : Nat} {v : Value} {es : List En} (h : OwnE w base v es) {g i : Nat} (hg : g < base) (u : Value) : OwnE (w.setCell ⟨g, i, none⟩ u) base v es := ownsRow_setCell_below h (a := ⟨g, i, none⟩) hg u

theorem set_size (w : World) (g i : Nat) (u : Value) : (w.setCell ⟨g, i, none⟩ u).heap.size = w.heap.size := by simp [World.setCell]
theorem rd_set_new (w : World) (g : Nat) (u : Value) (x : Int) (s : ByteArray) : RdE ((w.setCell ⟨g, 2, none⟩ u).alloc (.cells #[.int .i64 x, .string s] 68)) (some ⟨w.heap.size, 0, none⟩) [(x, s)] := by
  have h := rdE_new (w.setCell ⟨g, 2, none⟩ u) [(x, s)] (by simp [maxLen]) _ rfl
  rw [set_size] at h
  exact h
theorem le_set_alloc {B : Nat} {w : World} (h : B ≤ w.heap.size) (g : Nat) (u : Value) (o : Obj) : B ≤ ((w.setCell ⟨g, 2, none⟩ u).alloc o).heap.size := by
  have := (bel_new (Below.refl (w.setCell ⟨g, 2, none⟩ u).heap.size _) o).size
  rw [set_size] at this
  omega

set_option maxRecDepth 20000 in
set_option maxHeartbeats 2000000 in
theorem rappend_calls (b bt et : Int) (s : ByteArray) (A : Option Addr) (cap : Nat) (es : List En) (w : World) (hR : RdE w A es) (hlen : es.length ≤ 2 ^ 47) (hcap : es.length ≤ cap) :
    Calls Tryz.prog 91 #[trV b bt A es.length cap, .agg #[.int .i64 et, .string s]] w fun e w' => (∃ v, e = .returned v ∧ ResT w.heap.size b bt (if Tr.chk b bt es then Tr.with_ b bt es es.length [(et, s)] else none) v w') ∧ Below w.heap.size w w' := by
  obtain ⟨o, ho⟩ : ∃ o, o = (if Tr.chk b bt es then Tr.with_ b bt es es.length [(et, s)] else none) := ⟨_, rfl⟩
  rw [← ho]
  have hck := Lib.hid (fun W hb => rcheck_calls b bt A cap es W (hR.bel hb) (by omega))
  have HR := Lib.hid hR
  have hS := Lib.hid (((SW.nil w).new 25 #[.int .i64 b, .int .i64 bt, .slice A es.length cap] w.heap.size rfl).new 68 #[.int .i64 et, .string s] (w.heap.size + 1) (by simp) |>.new 25 zT (w.heap.size + 1 + 1) (by simp))
  by_cases hc : Tr.chk b bt es = true
  · rw [if_pos hc] at ho
    have hr := Tr.chk_rim hc
    rw [hc] at hck
    have hel : es.length ≤ 4096 := hr.2.2.2.2.2.1
    obtain ⟨out, hout⟩ : ∃ out, out = es ++ [(et, s)] := ⟨_, rfl⟩
    have hol : out.length = es.length + 1 := by rw [hout]; simp
    have ho2 : o = if Tr.chk b bt out then some out else none := by rw [ho]; unfold Tr.with_; rw [List.take_length, hout]
    have HW := Lib.hid ho2
    have HOUT := Lib.hid hout
    have HOL := Lib.hid hol
    clear hc hR hr ho ho2 hout hol
    go_enter Tryz.func91, Tryz.ntmps91
    go_wp2_with fail
    refine (hck.out _ hS.out.1).mono ?_
    rintro e w1 ⟨rfl, hb1⟩
    have hs1 := Lib.hid (hS.out.bel hb1)
    have hg2 := (hs1.out.at_ 2 rfl).lt
    have hsz := hs1.out.1.size
    have c0 := (hs1.out.at_ 0 rfl).cells
    have cB := (((hs1.out.at_ 0 rfl).alloc (.cells #[.int .i64 b, .int .i64 bt, .slice A es.length cap] 25)).alloc (.cells #[] 68)).cells
    have hs1' := Lib.hid (hs1.out.new 25 #[.int .i64 b, .int .i64 bt, .slice A es.length cap] w1.heap.size rfl)
    have hL : OwnE ((w1.alloc (.cells #[.int .i64 b, .int .i64 bt, .slice A es.length cap] 25)).alloc (.cells #[] 68)) (w1.heap.size + 1) (.slice (some ⟨w1.heap.size + 1, 0, none⟩) 0 0) [] := by
      simpa using OwnE.lit (w1.alloc (.cells #[.int .i64 b, .int .i64 bt, .slice A es.length cap] 25)) (w1.heap.size + 1) (by simp) [] (by simp) #[] rfl
    have HLL := Lib.hid hL
    have n0 : w.heap.size ≠ w1.heap.size := by omega
    have n1 : w.heap.size + 1 ≠ w1.heap.size := by omega
    clear hb1 hS hck hL
    go_wp2_with (first
      | (at_builtin
         refine wpList_appE rfl (.tmp 12) (.tmp 14) rfl (w1.heap.size + 1) _ [] rfl HLL.out A es.length cap es rfl rfl ((HR.out.bel hs1.out.1).bel (bel_new (bel_new (Below.refl _ _) _) _)) (by simp; omega) (by simp) ?_
         intro v1 w2 ho1 hg1 _
         have hb2 := Lib.hid (OwnE.grown (w0 := w1.alloc (.cells #[.int .i64 b, .int .i64 bt, .slice A es.length cap] 25)) HLL.out ((Below.refl _ _).alloc (by simp) _) (by simp) hg1)
         rw [List.nil_append] at ho1
         obtain ⟨A1, cap1, rfl, hc1, hR1, _⟩ := ho1.form
         have HO1 := Lib.hid ho1
         have hs2 := Lib.hid (hs1'.out.bel (hb2.out.mono (by simp)))
         have c6 := (hs2.out.at_ 3 rfl).cells
         have f6 := (hs2.out.at_ 3 rfl).free
         have ce := (hs2.out.at_ 1 rfl).cells
         have HSZ2 : Hid (w1.heap.size + 1 ≤ w2.heap.size) := Lib.hid (by have := hb2.out.size; simpa using this)
         clear hg1 ho1)
      | (at_builtin
         refine wpList_appE rfl (.tmp 18) (.tmp 20) rfl (w1.heap.size + 1) (.slice A1 es.length cap1) es rfl ((HO1.out.setBelow (g := w1.heap.size) (i := 2) (by omega) (.slice A1 es.length cap1)).kept (bel_new (Below.refl _ _) _)) (some ⟨w2.heap.size, 0, none⟩) 1 1 [(et, s)] rfl rfl (rd_set_new w2 w1.heap.size (.slice A1 es.length cap1) et s) (by simp; omega) (le_set_alloc HSZ2.out _ _ _) ?_
         intro v2 w3 ho3 hg3 _
         have hb3 := Lib.hid (OwnE.grown (w0 := w2.setCell ⟨w1.heap.size, 2, none⟩ (.slice A1 es.length cap1)) ((HO1.out.setBelow (g := w1.heap.size) (i := 2) (by omega) (.slice A1 es.length cap1)).kept (bel_new (Below.refl _ _) _)) ((Below.refl _ _).alloc (by rw [set_size]; exact HSZ2.out) _) (le_set_alloc HSZ2.out _ _ _) hg3)
         rw [← HOUT.out] at ho3
         obtain ⟨A2, cap2, rfl, hc2, hR2, hO2⟩ := ho3.form
         have HO3 := Lib.hid ho3
         have HT := Lib.hid (((hs2.out.at_ 3 rfl).set 2 (.slice A1 es.length cap1)).below hb3.out (by omega))
         have HRS := Lib.hid (((hs2.out.at_ 2 rfl).far (p := ⟨w1.heap.size, 2, none⟩) (by show w.heap.size + 1 + 1 ≠ w1.heap.size; omega) (.slice A1 es.length cap1)).below hb3.out (by omega))
         have hbw := Lib.hid ((bel_set hs2.out.1 (g := w1.heap.size) hsz 2 (.slice A1 es.length cap1)).trans (hb3.out.mono (by omega)))
         have c7 := HT.out.cells
         have f7 := HT.out.free
         simp at c7
         have HR2 := Lib.hid hR2
         have HO2 := Lib.hid hO2
         clear hg3 ho3 hR2 hO2 ce c6 f6 cB c0 hR1))
    have hb4 := Lib.hid (bel_set hbw.out (g := w1.heap.size) hsz 2 (.slice A2 out.length cap2))
    have HRS4 := Lib.hid (HRS.out.far (p := ⟨w1.heap.size, 2, none⟩) (by show w.heap.size + 1 + 1 ≠ w1.heap.size; omega) (.slice A2 out.length cap2))
    have HT4 := Lib.hid (HT.out.set 2 (.slice A2 out.length cap2))
    have ho4 := Lib.hid (HO3.out.set (g := w1.heap.size) (i := 2) (u := .slice A2 out.length cap2) (by omega))
    have hr4 := Lib.hid (HR2.out.far (g := w1.heap.size) (i := 2) (v := .slice A2 out.length cap2) (fun b off sp e => by have := (HO2.out b off sp e).1; omega))
    generalize w3.setCell ⟨w1.heap.size, 2, none⟩ (.slice A2 out.length cap2) = w4 at *
    have hk4 := Lib.hid (rcheck_calls b bt A2 cap2 out w4 hr4.out (by have := HOL.out; omega))
    clear c7 f7 HT HRS hb3 hb2 HO1 HLL hs2 HSZ2 HR2 hbw
    rcases hco : Tr.chk b bt out with _ | _
    · rw [hco] at hk4
      have ho0 : o = none := by rw [HW.out, hco]; rfl
      subst ho0
      clear hco
      refine hk4.out.mono ?_
      rintro e w5 ⟨rfl, hb5⟩
      have hw5 := Lib.hid (bel_tr hb4.out hb5)
      have hB := HRS4.out.bel hb5
      have c5 := hB.cells
      have f5 := hB.free
      clear hb5
      go_wp2_with fail
      refine bodyPost_ret (v := .tuple #[trV 0 0 none 0 0, .bool false]) (by simp [results, Tryz.results91, go_sem, c5]) rfl ⟨⟨_, rfl, rfl⟩, put3_bel hw5.out (by omega)⟩
    · rw [hco] at hk4
      have ho0 : o = some out := by rw [HW.out, hco]; rfl
      subst ho0
      clear hco
      refine hk4.out.mono ?_
      rintro e w5 ⟨rfl, hb5⟩
      have hw5 := Lib.hid (bel_tr hb4.out hb5)
      have hB := HRS4.out.bel hb5
      have c5 := hB.cells
      have f5 := hB.free
      have c6 := (HT4.out.bel hb5).cells
      simp at c6
      have hr5 := Lib.hid (hr4.out.bel hb5)
      have ho5 := Lib.hid (ho4.out.kept hb5)
      have n6 : w1.heap.size ≠ w.heap.size + 1 + 1 := by omega
      clear hb5
      go_wp2_with fail
      refine bodyPost_ret (v := .tuple #[trV b bt A2 out.length cap2, .bool true]) (by simp [results, Tryz.results91, go_sem, c5]) rfl ⟨⟨_, rfl, ⟨A2, cap2, rfl, put3_own ho5.out (by omega) (by omega)⟩⟩, put3_bel hw5.out (by omega)⟩
  · rw [if_neg hc] at ho
    simp only [Bool.not_eq_true] at hc
    rw [hc] at hck
    subst ho
    clear hc hR
    go_enter Tryz.func91, Tryz.ntmps91
    go_wp2_with fail
    refine (hck.out _ hS.out.1).mono ?_
    rintro e w1 ⟨rfl, hb1⟩
    have hs1 := Lib.hid (hS.out.bel hb1)
    have hB := (hs1.out.at_ 2 rfl)
    have c2 := hB.cells
    have f2 := hB.free
    clear hb1 hS
    go_wp2_with fail
    refine bodyPost_ret (v := .tuple #[trV 0 0 none 0 0, .bool false]) (by simp [results, Tryz.results91, go_sem, c2]) rfl ⟨⟨_, rfl, rfl⟩, put3_bel hs1.out.1 (by omega)⟩
end Go.Proofs.YtdladjgdhnkkcaaGreat
