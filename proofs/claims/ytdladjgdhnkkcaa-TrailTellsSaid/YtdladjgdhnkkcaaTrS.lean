/-
  Contracts of the reference of layer 13: Slice.
  Conditions: the entries can be read.
-/
import Derived.Test.YtdladjgdhnkkcaaTrW
namespace Go.Proofs.Ytdladjgdhnkkcaa
open Go.RowKit
set_option linter.unusedVariables false
set_option linter.unusedSimpArgs false

theorem take_step {es : List En} {d i : Nat} (h1 : d ≤ i) (h2 : i < es.length) : (es.drop d).take (i + 1 - d) = (es.drop d).take (i - d) ++ [es.getD i default] := by
  rw [show i + 1 - d = (i - d) + 1 from by omega, List.take_add_one]
  congr 1
  rw [List.getElem?_drop, show d + (i - d) = i from by omega, List.getElem?_eq_getElem h2]
  simp [List.getD, h2]
theorem cut_end {b bt from_ most : Int} {es : List En} {d i : Nat} (hc : Tr.chk b bt es = true) (hd : d = (max from_ (b + 1) - b - 1).toNat) (hi : i ≤ es.length) (hm : (((es.drop d).take (i - d)).length : Int) ≤ max most 0)
    (he : i = es.length ∨ most ≤ (((es.drop d).take (i - d)).length : Int)) : (es.drop d).take (i - d) = Tr.cutFrom b bt es from_ most := by
  unfold Tr.cutFrom
  rw [hc, ← hd]
  simp only [List.length_take, List.length_drop] at hm he
  by_cases h1 : from_ ≤ b + es.length ∧ 0 < most
  · rw [if_pos (by simp [h1])]
    rcases he with rfl | he
    · rw [List.take_of_length_le (by simp), List.take_of_length_le (by simp; omega)]
    · rw [show i - d = most.toNat from by omega]
  · rw [if_neg (by simpa using h1)]
    apply List.eq_nil_of_length_eq_zero
    simp only [List.length_take, List.length_drop]
    omega

set_option maxRecDepth 20000 in
set_option maxHeartbeats 4000000 in
theorem rslice_calls (b bt from_ most : Int) (A : Option Addr) (cap : Nat) (es : List En) (w : World) (hR : RdE w A es) (hlen : es.length ≤ 2 ^ 47) (hcap : es.length ≤ cap) :
    Calls Try.prog 35 #[trV b bt A es.length cap, .int .i64 from_, .int .i64 most] w fun e w' => (∃ A' cap', e = .returned (.slice A' (Tr.cutFrom b bt es from_ most).length cap') ∧ RdE w' A' (Tr.cutFrom b bt es from_ most)) ∧ Below w.heap.size w w' := by
  have hck := Lib.hid (fun W hb => rcheck_calls b bt A cap es W (hR.bel hb) (by omega))
  have HR := Lib.hid hR
  have hS := Lib.hid (((SW.nil w).new 24 #[.int .i64 b, .int .i64 bt, .slice A es.length cap] w.heap.size rfl))
  obtain ⟨o, ho⟩ : ∃ o, o = Tr.cutFrom b bt es from_ most := ⟨_, rfl⟩
  rw [← ho]
  by_cases hc : Tr.chk b bt es = true
  · obtain ⟨r1, r2, r3, r4, _, r5, r6⟩ := Tr.chk_rim hc
    obtain ⟨d, hd⟩ : ∃ d, d = (max from_ (b + 1) - b - 1).toNat := ⟨_, rfl⟩
    have HD := Lib.hid hd
    have HC := Lib.hid hc
    have HO := Lib.hid ho
    rw [hc] at hck
    clear hc hR ho hd
    go_enter Try.func35, Try.ntmps35
    go_wp2_with fail
    refine (hck.out _ hS.out.1).mono ?_
    rintro e w1 ⟨rfl, hb1⟩
    have hs1 := Lib.hid (hS.out.bel hb1)
    have hlt := (hs1.out.at_ 0 rfl).lt
    clear hb1 hS hck
    go_wp2_with fail
    go_loopg [7, 8] es.length (fun g v7 v8 W => ∃ i : Nat, v8 = .int .i64 i ∧ ∃ A7 c7, v7 = .slice A7 ((es.drop d).take (i - d)).length c7 ∧ Hid (i + g = es.length ∧ OwnE W (w.heap.size + 1) (.slice A7 ((es.drop d).take (i - d)).length c7) ((es.drop d).take (i - d)) ∧ Below (w.heap.size + 1) w1 W ∧ (((es.drop d).take (i - d)).length : Int) ≤ max most 0))
    case atStart => exact ⟨0, rfl, none, 0, by simp, Lib.hid ⟨by omega, by have := OwnE.nil w1 (w.heap.size + 1); simpa using this, Below.refl _ _, by simp; omega⟩⟩
    case round =>
      obtain ⟨i, rfl, A7, c7, rfl, HI⟩ := hrel
      obtain ⟨i1, i2, i3, i4⟩ := HI.out
      have HIg := Lib.hid i1
      have HOw := Lib.hid i2
      have HBl := Lib.hid i3
      have HM := Lib.hid i4
      have hB := (hs1.out.at_ 0 rfl).below i3 (by omega)
      have c1 := hB.cells
      have hbw := Lib.hid (hs1.out.1.trans (i3.mono (by omega)))
      have hsz := i3.size
      clear i1 i2 i3 i4 HI
      obtain ⟨n, hn⟩ : ∃ n, n = ((es.drop d).take (i - d)).length := ⟨_, rfl⟩
      rw [← hn] at HOw HM ⊢
      have HN := Lib.hid hn
      by_cases hlt2 : i < es.length ∧ (n : Int) < most
      · obtain ⟨l1, l2⟩ := hlt2
        have g1 : (i : Int) < (es.length : Int) := by omega
        have hg : 0 < gk := by have := HIg.out; omega
        have n1 : b + 1 ≤ 9223372036854775807 := by omega
        have n2 : b + 1 + (i : Int) ≤ 9223372036854775807 := by omega
        by_cases hf : from_ ≤ b + 1 + (i : Int)
        · obtain ⟨bl, off, rfl, hbl, x1, x2⟩ := HR.out i l1
          have hx1 := (hbw.out.cell (p := ⟨bl, off + i * 2, none⟩) hbl).trans x1
          have hx2 := (hbw.out.cell (p := ⟨bl, off + i * 2 + 1, none⟩) hbl).trans x2
          have hdi : d ≤ i := by rw [HD.out]; omega
          have hst := Lib.hid (take_step hdi l1)
          generalize hcc : es.getD i default = c at *
          obtain ⟨cx, cs⟩ := c
          simp only at hx1 hx2
          clear x1 x2 hn hcc
          go_wp2_with (first
            | (at_builtin
               refine wpList_appE rfl (.tmp 33) (.tmp 39) rfl (w.heap.size + 1) _ ((es.drop d).take (i - d)) rfl (HOw.out.kept (bel_new (Below.refl _ _) _)) (some ⟨wr.heap.size, 0, none⟩) 1 1 [(cx, cs)] rfl rfl (rdE_new wr [(cx, cs)] (by simp [maxLen]) _ rfl) (by have := HN.out; simp; omega) (by simp; omega) ?_
               intro v2 w2 ho2 hg2 _
               have hb2 := Lib.hid (OwnE.grown (HOw.out.kept (bel_new (Below.refl _ _) _)) (HBl.out.alloc (by omega) _) (by simp; omega) hg2)
               rw [← hst.out] at ho2
               obtain ⟨A2, c2, rfl, _, _, _⟩ := ho2.form
               clear hg2))
          go_roundg (gk - 1)
          case rel => exact ⟨i + 1, by go_num, A2, c2, by simp, Lib.hid ⟨by have := HIg.out; omega, ho2, hb2.out, by have := HN.out; rw [hst.out]; simp at this ⊢; omega⟩⟩
          case measure => omega
        · have hdi : (es.drop d).take (i + 1 - d) = (es.drop d).take (i - d) := by
            have : i + 1 - d = i - d := by rw [HD.out]; omega
            rw [this]
          have hst := Lib.hid hdi
          clear hdi hn
          go_wp2_with fail
          go_roundg (gk - 1)
          case rel =>
            refine ⟨i + 1, by go_num, A7, c7, by rw [hst.out, HN.out], Lib.hid ⟨by have := HIg.out; omega, ?_, HBl.out, ?_⟩⟩
            · rw [hst.out, ← HN.out]; exact HOw.out
            · rw [hst.out, ← HN.out]; exact HM.out
          case measure => omega
      · have hend : (es.drop d).take (i - d) = o := by
          rw [HO.out]
          exact cut_end HC.out HD.out (by have := HIg.out; omega) (by rw [← HN.out]; exact HM.out) (by rw [← HN.out]; have := HIg.out; omega)
        have hno : n = o.length := by rw [HN.out, hend]
        rw [hend] at HOw
        have hL := Lib.hid hlt2
        clear hlt2 hn hend
        have hfin : ∃ A' cap', Ending.returned (.slice A7 n c7) = .returned (.slice A' o.length cap') ∧ RdE wr A' o := by
          obtain ⟨A2, c2, e, _, hr, _⟩ := HOw.out.form
          injection e with e1 e2 e3
          exact ⟨A7, c7, by rw [hno], e1 ▸ hr⟩
        have HF := Lib.hid hfin
        clear hfin hno
        by_cases l1 : i < es.length
        · have g1 : (i : Int) < (es.length : Int) := by omega
          have g2 : ¬ (n : Int) < most := by have := hL.out; omega
          go_wp2_with fail
          go_ret
          obtain ⟨A', c', e1, e2⟩ := HF.out
          exact ⟨⟨A', ⟨c', e1⟩, e2⟩, hbw.out⟩
        · have g1 : ¬ (i : Int) < (es.length : Int) := by omega
          go_wp2_with fail
          go_ret
          obtain ⟨A', c', e1, e2⟩ := HF.out
          exact ⟨⟨A', ⟨c', e1⟩, e2⟩, hbw.out⟩
  · simp only [Bool.not_eq_true] at hc
    have hon : o = [] := by rw [ho]; unfold Tr.cutFrom; rw [hc]; simp
    subst hon
    rw [hc] at hck
    go_enter Try.func35, Try.ntmps35
    go_wp2_with fail
    refine (hck.out _ hS.out.1).mono ?_
    rintro e w1 ⟨rfl, hb1⟩
    have hs1 := hS.out.bel hb1
    go_wp2_with fail
    go_ret
    exact ⟨⟨none, 0, rfl, RdE.nil _ _⟩, hs1.1⟩
end Go.Proofs.Ytdladjgdhnkkcaa
